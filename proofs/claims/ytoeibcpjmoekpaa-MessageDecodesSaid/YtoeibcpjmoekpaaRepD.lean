/- Replies: near. -/
import Derived.Test.YtoeibcpjmoekpaaRepC
import Derived.Test.YtoeibcpjmoekpaaMsgE
import Derived.StillTailTactics
namespace Go.Proofs.Ytoeibcpjmoekpaa
open Go.RowKit
set_option linter.unusedVariables false

section
variable {α : Type} {f : α → List Value} {k : Nat}
theorem flat_set : ∀ (l : List α), (∀ a ∈ l, (f a).length = k) → ∀ (j i : Nat) (hj : j < l.length), i < k → ∀ (a' : α) (u : Value), f a' = (f l[j]).set i u → (l.flatMap f).set (j * k + i) u = (l.set j a').flatMap f
  | [], _, j, i, hj, _, _, _, _ => by simp at hj
  | a :: l, h, j, i, hj, hi, a', u, e => by
    have ha := h a (by simp)
    rcases j with _ | j
    · rw [List.set_cons_zero, List.flatMap_cons, List.flatMap_cons, e, Nat.zero_mul, Nat.zero_add, List.set_append_left _ _ (by omega)]
      rfl
    · rw [List.set_cons_succ, List.flatMap_cons, List.flatMap_cons, List.set_append_right _ _ (by rw [ha, Nat.succ_mul]; omega), ha, show (j + 1) * k + i - k = j * k + i by rw [Nat.succ_mul]; omega]
      rw [flat_set l (fun x hx => h x (by simp [hx])) j i (by simpa using hj) hi a' u (by simpa using e)]
theorem flat_take : ∀ (l : List α), (∀ a ∈ l, (f a).length = k) → ∀ m : Nat, (l.take m).flatMap f = (l.flatMap f).take (m * k)
  | [], _, m => by simp
  | a :: l, h, m => by
    have ha := h a (by simp)
    rcases m with _ | m
    · simp
    · rw [List.take_succ_cons, List.flatMap_cons, List.flatMap_cons, flat_take l (fun x hx => h x (by simp [hx])) m, show (m + 1) * k = k + m * k by rw [Nat.succ_mul]; omega, ← ha, List.take_length_add_append]
theorem InR.pre2 {w : World} {A : Option Addr} {n c : Nat} {l : List α} (h : InR f w (.slice A n c) l) (hl : ∀ a ∈ l, (f a).length = k) (m : Nat) (hm : m ≤ l.length) : InR f w (.slice A m c) (l.take m) := by
  obtain ⟨A', c', e, hc, hr⟩ := h
  cases e
  have hlt : (l.take m).length = m := by simp; omega
  exact ⟨A, c, by rw [hlt], by omega, by rw [flat_take l hl]; exact hr.take _⟩
theorem InV.pre2 {f : α → Value} {w : World} {A : Option Addr} {n c : Nat} {l : List α} (h : InV f w (.slice A n c) l) (m : Nat) (hm : m ≤ l.length) : InV f w (.slice A m c) (l.take m) := by
  obtain ⟨A', c', e, hc, hr⟩ := h
  cases e
  have hlt : (l.take m).length = m := by simp; omega
  exact ⟨A, c, by rw [hlt], by omega, by rw [List.map_take]; exact hr.take _⟩
theorem OwnR.form {e : TypeId} {base : Nat} {w : World} {v : Value} {l : List α} (h : OwnR f k e base w v l) (h0 : 0 < l.length) : ∃ g cap, v = .slice (some ⟨g, 0, none⟩) l.length cap ∧ base ≤ g ∧ g < w.heap.size := by
  rcases h.2 with ⟨rfl, hn⟩ | ⟨g, cap, cur, rfl, hb, hg, _⟩
  · omega
  · refine ⟨g, cap, rfl, hb, ?_⟩
    rcases Nat.lt_or_ge g w.heap.size with h | h
    · exact h
    · rw [Array.getElem?_eq_none h] at hg; cases hg
theorem OwnR.put {e : TypeId} {base : Nat} {w : World} {g n cap : Nat} {l : List α} (h : OwnR f k e base w (.slice (some ⟨g, 0, none⟩) n cap) l) (hn : n = l.length) (hl : ∀ a ∈ l, (f a).length = k) (j i : Nat) (hj : j < l.length) (hi : i < k) (a' : α) (u : Value) (ha : f a' = (f l[j]).set i u) :
    OwnR f k e base (w.setCell ⟨g, j * k + i, none⟩ u) (.slice (some ⟨g, 0, none⟩) n cap) (l.set j a') ∧ w.grownBy (w.setCell ⟨g, j * k + i, none⟩ u) (some g) := by
  subst hn
  have h' : w.ownsRow base e k (.slice (some ⟨g, 0, none⟩) l.length cap) l.length (l.flatMap f) := h
  obtain ⟨h1, h2⟩ := World.ownsRow.stored h' (j * k + i) u
  refine ⟨?_, h2⟩
  unfold OwnR
  rw [List.length_set, ← flat_set l hl j i hj hi a' u ha]
  exact h1
theorem OwnR.at_ {e : TypeId} {base : Nat} {w : World} {g n cap : Nat} {l : List α} (h : OwnR f k e base w (.slice (some ⟨g, 0, none⟩) n cap) l) (hn : n = l.length) (hl : ∀ a ∈ l, (f a).length = k) (j i : Nat) (hj : j < l.length) (hi : i < k) :
    w.cell? ⟨g, j * k + i, none⟩ = (f l[j])[i]? ∧ w.frozen? ⟨g, j * k + i, none⟩ = false := by
  subst hn
  have h' : w.ownsRow base e k (.slice (some ⟨g, 0, none⟩) l.length cap) l.length (l.flatMap f) := h
  have hjk : j * k + k ≤ l.length * k := by rw [← Nat.succ_mul]; exact Nat.mul_le_mul_right _ hj
  exact ⟨by rw [World.ownsRow.cellAt h' _ (by omega), flat_get l hl j i hj hi], World.ownsRow.frozenAt h' _⟩
theorem OwnR_empty (w : World) (e : TypeId) : OwnR f k e w.heap.size (w.alloc (.cells #[] e)) (.slice (some ⟨w.heap.size, 0, none⟩) 0 0) [] :=
  ⟨by simp, .inr ⟨w.heap.size, 0, #[], rfl, Nat.le_refl _, heap_alloc_new w _, Nat.le_refl _, Nat.zero_le _, by simp, by simp⟩⟩
end
/-- a thread with at most four arguments -/
def Thr.cut (t : Thr) : Thr := ⟨t.state, t.regs, t.pc, t.func, t.args.take 4⟩
theorem thr_set {t : Thr} {y u : Value} (h : t.regs.length = 16) : thrCells (t.cut, u) = (thrCells (t, y)).set 19 u := by
  simp only [thrCells, Thr.cut, List.set_cons_succ]
  rw [List.set_append_right _ _ (by simp [h])]
  simp [h]
theorem Thr.cut_ok {t : Thr} (h : t.Ok) : t.cut.Ok := ⟨h.nums, fun x hx => h.args x (List.mem_of_mem_take hx)⟩
/-- what near makes of a reply -/
def Rep.near (r : Rep) : Rep := ⟨r.err, r.words, (r.threads.map Thr.cut).take 8, r.output, r.s0, r.s1, r.s2, r.s3, r.s4, r.s5, r.s6⟩
structure NearOf (n : Int) (r r' : Rep) : Prop where
  thr : r'.threads = (r.threads.map Thr.cut).take 8
  seven : n = 7 → r' = r.near
  ok : r.Ok → r'.Ok
  words : r'.words.length ≤ 129 ∨ r'.words.length ≤ r.words.length
  output : r'.output.length ≤ 129 ∨ r'.output.length ≤ r.output.length
theorem near_thr_ok {r : Rep} (h : r.Ok) : ∀ t ∈ (r.threads.map Thr.cut).take 8, t.Ok := fun t ht => by
  obtain ⟨u, hu, rfl⟩ := List.mem_map.1 (List.mem_of_mem_take ht)
  exact Thr.cut_ok (h.threads u hu)
/-- a reply that lies in memory older than w0 or in rows of its own -/
structure RepOwn (w0 w : World) (yw yt yo : Value) (r : Rep) : Prop where
  words : InI w0 yw r.words ∨ OwnV iv 3 w0.heap.size w yw r.words
  threads : ∃ B n m c us, yt = .slice B m c ∧ m ≤ n ∧ OwnR thrCells 20 91 w0.heap.size w (.slice B n c) us ∧ us.length = n ∧ (us.take m).map Prod.fst = r.threads ∧ ∀ u ∈ us, ThrIn w0 u
  output : OutAt w0 yo r.output ∨ OwnR outCells 2 62 w0.heap.size w yo r.output
theorem thrs_pre {w0 w : World} {B : Option Addr} {n m c : Nat} {us : List (Thr × Value)} {ts : List Thr} (h1 : m ≤ n) (h2 : OwnR thrCells 20 91 w0.heap.size w (.slice B n c) us) (h3 : us.length = n) (h4 : (us.take m).map Prod.fst = ts) (h5 : ∀ u ∈ us, ThrIn w0 u) (he : Ext w0 w) : ThrsAt w (.slice B m c) ts :=
  ⟨us.take m, h4, h2.inR.pre2 (fun z hz => thr_len (h5 z hz).regs) m (by omega), fun z hz => (h5 z (List.mem_of_mem_take hz)).ext he⟩
theorem RepOwn.in_ {w0 w : World} {yw yt yo : Value} {r : Rep} (h : RepOwn w0 w yw yt yo r) (he : Ext w0 w) : RepIn w yw yt yo r := by
  obtain ⟨h1, ⟨B, n, m, c, us, rfl, k1, k2, k3, k4, k5⟩, h3⟩ := h
  refine ⟨?_, thrs_pre k1 k2 k3 k4 k5 he, ?_⟩
  · rcases h1 with h | h
    · exact h.ext he
    · exact h.inV
  · rcases h3 with h | h
    · exact h.ext he
    · exact h.inR
theorem RepOwn.ext {w0 w w' : World} {yw yt yo : Value} {r : Rep} (h : RepOwn w0 w yw yt yo r) (he : Ext w w') : RepOwn w0 w' yw yt yo r := by
  obtain ⟨h1, ⟨B, n, m, c, us, rfl, k1, k2, k3, k4, k5⟩, h3⟩ := h
  exact ⟨h1.imp id fun h => h.ext he, ⟨B, n, m, c, us, rfl, k1, k2.ext he, k3, k4, k5⟩, h3.imp id fun h => h.ext he⟩
theorem RepOwn.kept {w0 w w' : World} {yw yt yo : Value} {r : Rep} {g : Nat} {cs : Array Value} {t : TypeId} {fr : Nat × Nat} (h : RepOwn w0 w yw yt yo r) (hb : w.heap[g]? = some (.cells cs t fr)) (t1 : 3 ≠ t) (t2 : 91 ≠ t) (t3 : 62 ≠ t) (hg : w.grownBy w' (some g)) : RepOwn w0 w' yw yt yo r := by
  obtain ⟨h1, ⟨B, n, m, c, us, rfl, k1, k2, k3, k4, k5⟩, h3⟩ := h
  exact ⟨h1.imp id fun h => h.kept hg (.inr (h.ne_blk hb t1)), ⟨B, n, m, c, us, rfl, k1, k2.kept hg (.inr (k2.ne_blk hb t2)), k3, k4, k5⟩, h3.imp id fun h => h.kept hg (.inr (h.ne_blk hb t3))⟩
def NearPost (r : Rep) (n : Int) (w0 w : World) (e : Ending) (w' : World) : Prop := ∃ yw yt yo r', e = .returned (.agg #[.int .i64 r'.err, yw, yt, yo, .int .i64 r'.s0, .int .i64 r'.s1, .int .i64 r'.s2, .int .i64 r'.s3, .int .i64 r'.s4, .int .i64 r'.s5, .int .i64 r'.s6]) ∧ RepOwn w0 w' yw yt yo r' ∧ NearOf n r r' ∧ (n = 7 → InI w0 yw r.words ∧ OutAt w0 yo r.output) ∧ Ext w w'
theorem thr_info : (Try.prog.info? 91).map (fun i => (i.zero, i.size, i.bytes)) = some (some (.agg #[.int .i64 0, .int .i64 0, .int .i64 0, .int .i64 0, .int .i64 0, .int .i64 0, .int .i64 0, .int .i64 0, .int .i64 0, .int .i64 0, .int .i64 0, .int .i64 0, .int .i64 0, .int .i64 0, .int .i64 0, .int .i64 0, .int .i64 0, .int .i64 0, .int .i64 0, .slice none 0 0]), 20, 176) := by kernel_rfl
theorem elem_thr : ElemN Try.prog 53 91 20 176 := by
  rcases hi : Try.prog.info? 91 with _ | i
  · have := thr_info; rw [hi] at this; cases this
  · have := thr_info
    rw [hi] at this
    simp only [Option.map_some, Option.some.injEq, Prod.mk.injEq] at this
    exact ⟨Try.underlying53, by omega, i, _, hi, this.1, this.2.1, this.2.2, rfl⟩
theorem pr_info : (Try.prog.info? 62).map (fun i => (i.zero, i.size, i.bytes)) = some (some (.agg #[.int .i64 0, .int .i64 0]), 2, 16) := by kernel_rfl
theorem elem_pr : ElemN Try.prog 54 62 2 16 := by
  rcases hi : Try.prog.info? 62 with _ | i
  · have := pr_info; rw [hi] at this; cases this
  · have := pr_info
    rw [hi] at this
    simp only [Option.map_some, Option.some.injEq, Prod.mk.injEq] at this
    exact ⟨Try.underlying54, by omega, i, _, hi, this.1, this.2.1, this.2.2, rfl⟩
theorem made_list2 (n : Nat) : (madeCells #[.int .i64 0, .int .i64 0] (n * 2)).toList = (List.replicate n ((0 : Int), (0 : Int))).flatMap outCells := by
  apply List.ext_getElem?
  intro i
  have hl : ((List.replicate n ((0 : Int), (0 : Int))).flatMap outCells).length = n * 2 := by
    rw [flat_len (k := 2) _ (fun _ _ => rfl)]; simp
  have h1 : (madeCells #[.int .i64 0, .int .i64 0] (n * 2)).toList.length = n * 2 := by simp [madeCells]
  by_cases h : i < n * 2
  · have e1 : ((List.replicate n ((0 : Int), (0 : Int))).flatMap outCells)[i]? = some (.int .i64 0) := by
      have := flat_get (f := outCells) (k := 2) (List.replicate n ((0 : Int), (0 : Int))) (fun _ _ => rfl) (i / 2) (i % 2) (by simp; omega) (by omega)
      rw [show i / 2 * 2 + i % 2 = i by omega] at this
      rw [this]
      simp only [List.getElem_replicate, outCells]
      rcases (show i % 2 = 0 ∨ i % 2 = 1 by omega) with e | e <;> rw [e] <;> rfl
    rw [e1]
    have h2 : i % 2 < 2 := by omega
    simp only [madeCells, Array.toList_map, List.getElem?_map, Array.getElem?_toList]
    rw [Array.getElem?_range, if_pos h]
    simp only [Option.map_some]
    rcases (show i % 2 = 0 ∨ i % 2 = 1 by omega) with e | e
    · simp [e]
    · simp [e]
  · rw [List.getElem?_eq_none (by omega), List.getElem?_eq_none (by omega)]
theorem OwnR_newN {α : Type} {f : α → List Value} {k : Nat} (w : World) (l : List α) (n : Nat) (hn : n = l.length) (hm : n ≤ 1000000) (hf : ∀ a ∈ l, (f a).length = k) (C : Array Value) (hC : C.toList = l.flatMap f) (e : TypeId) : OwnR f k e w.heap.size (w.alloc (.cells C e)) (.slice (some ⟨w.heap.size, 0, none⟩) n n) l := by
  subst hn
  have hl := flat_len l hf
  have hs : C.size = l.length * k := by rw [← Array.length_toList, hC, hl]
  exact ⟨hl, .inr ⟨w.heap.size, l.length, C, rfl, Nat.le_refl _, heap_alloc_new w _, Nat.le_refl _, by simp only [maxLen]; omega, hs, by rw [hC]; exact List.take_of_length_le (by omega)⟩⟩
theorem store11 {W : World} {g : Nat} {z0 z1 z2 z3 z4 z5 z6 z7 z8 z9 z10 : Value} {t : TypeId} (h : W.heap[g]? = some (.cells #[z0, z1, z2, z3, z4, z5, z6, z7, z8, z9, z10] t (0, 0))) (a0 a1 a2 a3 a4 a5 a6 a7 a8 a9 a10 : Value) :
    ∃ W', (((((((((((W.setCell ⟨g, 0, none⟩ a0).setCell ⟨g, 1, none⟩ a1).setCell ⟨g, 2, none⟩ a2).setCell ⟨g, 3, none⟩ a3).setCell ⟨g, 4, none⟩ a4).setCell ⟨g, 5, none⟩ a5).setCell ⟨g, 6, none⟩ a6).setCell ⟨g, 7, none⟩ a7).setCell ⟨g, 8, none⟩ a8).setCell ⟨g, 9, none⟩ a9).setCell ⟨g, 10, none⟩ a10) = W' ∧ W'.heap[g]? = some (.cells #[a0, a1, a2, a3, a4, a5, a6, a7, a8, a9, a10] t (0, 0)) ∧ W.grownBy W' (some g) := by
  refine ⟨_, rfl, ?_, gset2 (gset2 (gset2 (gset2 (gset2 (gset2 (gset2 (gset2 (gset2 (gset2 (gset _ _ _) _ _) _ _) _ _) _ _) _ _) _ _) _ _) _ _) _ _) _ _⟩
  have h0 : (W.setCell ⟨g, 0, none⟩ a0).heap[g]? = some (.cells #[a0, z1, z2, z3, z4, z5, z6, z7, z8, z9, z10] t (0, 0)) := blk_set h 0 a0
  have h1 : ((W.setCell ⟨g, 0, none⟩ a0).setCell ⟨g, 1, none⟩ a1).heap[g]? = some (.cells #[a0, a1, z2, z3, z4, z5, z6, z7, z8, z9, z10] t (0, 0)) := blk_set h0 1 a1
  have h2 : (((W.setCell ⟨g, 0, none⟩ a0).setCell ⟨g, 1, none⟩ a1).setCell ⟨g, 2, none⟩ a2).heap[g]? = some (.cells #[a0, a1, a2, z3, z4, z5, z6, z7, z8, z9, z10] t (0, 0)) := blk_set h1 2 a2
  have h3 : ((((W.setCell ⟨g, 0, none⟩ a0).setCell ⟨g, 1, none⟩ a1).setCell ⟨g, 2, none⟩ a2).setCell ⟨g, 3, none⟩ a3).heap[g]? = some (.cells #[a0, a1, a2, a3, z4, z5, z6, z7, z8, z9, z10] t (0, 0)) := blk_set h2 3 a3
  have h4 : (((((W.setCell ⟨g, 0, none⟩ a0).setCell ⟨g, 1, none⟩ a1).setCell ⟨g, 2, none⟩ a2).setCell ⟨g, 3, none⟩ a3).setCell ⟨g, 4, none⟩ a4).heap[g]? = some (.cells #[a0, a1, a2, a3, a4, z5, z6, z7, z8, z9, z10] t (0, 0)) := blk_set h3 4 a4
  have h5 : ((((((W.setCell ⟨g, 0, none⟩ a0).setCell ⟨g, 1, none⟩ a1).setCell ⟨g, 2, none⟩ a2).setCell ⟨g, 3, none⟩ a3).setCell ⟨g, 4, none⟩ a4).setCell ⟨g, 5, none⟩ a5).heap[g]? = some (.cells #[a0, a1, a2, a3, a4, a5, z6, z7, z8, z9, z10] t (0, 0)) := blk_set h4 5 a5
  have h6 : (((((((W.setCell ⟨g, 0, none⟩ a0).setCell ⟨g, 1, none⟩ a1).setCell ⟨g, 2, none⟩ a2).setCell ⟨g, 3, none⟩ a3).setCell ⟨g, 4, none⟩ a4).setCell ⟨g, 5, none⟩ a5).setCell ⟨g, 6, none⟩ a6).heap[g]? = some (.cells #[a0, a1, a2, a3, a4, a5, a6, z7, z8, z9, z10] t (0, 0)) := blk_set h5 6 a6
  have h7 : ((((((((W.setCell ⟨g, 0, none⟩ a0).setCell ⟨g, 1, none⟩ a1).setCell ⟨g, 2, none⟩ a2).setCell ⟨g, 3, none⟩ a3).setCell ⟨g, 4, none⟩ a4).setCell ⟨g, 5, none⟩ a5).setCell ⟨g, 6, none⟩ a6).setCell ⟨g, 7, none⟩ a7).heap[g]? = some (.cells #[a0, a1, a2, a3, a4, a5, a6, a7, z8, z9, z10] t (0, 0)) := blk_set h6 7 a7
  have h8 : (((((((((W.setCell ⟨g, 0, none⟩ a0).setCell ⟨g, 1, none⟩ a1).setCell ⟨g, 2, none⟩ a2).setCell ⟨g, 3, none⟩ a3).setCell ⟨g, 4, none⟩ a4).setCell ⟨g, 5, none⟩ a5).setCell ⟨g, 6, none⟩ a6).setCell ⟨g, 7, none⟩ a7).setCell ⟨g, 8, none⟩ a8).heap[g]? = some (.cells #[a0, a1, a2, a3, a4, a5, a6, a7, a8, z9, z10] t (0, 0)) := blk_set h7 8 a8
  have h9 : ((((((((((W.setCell ⟨g, 0, none⟩ a0).setCell ⟨g, 1, none⟩ a1).setCell ⟨g, 2, none⟩ a2).setCell ⟨g, 3, none⟩ a3).setCell ⟨g, 4, none⟩ a4).setCell ⟨g, 5, none⟩ a5).setCell ⟨g, 6, none⟩ a6).setCell ⟨g, 7, none⟩ a7).setCell ⟨g, 8, none⟩ a8).setCell ⟨g, 9, none⟩ a9).heap[g]? = some (.cells #[a0, a1, a2, a3, a4, a5, a6, a7, a8, a9, z10] t (0, 0)) := blk_set h8 9 a9
  have h10 : (((((((((((W.setCell ⟨g, 0, none⟩ a0).setCell ⟨g, 1, none⟩ a1).setCell ⟨g, 2, none⟩ a2).setCell ⟨g, 3, none⟩ a3).setCell ⟨g, 4, none⟩ a4).setCell ⟨g, 5, none⟩ a5).setCell ⟨g, 6, none⟩ a6).setCell ⟨g, 7, none⟩ a7).setCell ⟨g, 8, none⟩ a8).setCell ⟨g, 9, none⟩ a9).setCell ⟨g, 10, none⟩ a10).heap[g]? = some (.cells #[a0, a1, a2, a3, a4, a5, a6, a7, a8, a9, a10] t (0, 0)) := blk_set h9 10 a10
  exact h10
theorem blk11f {w : World} {g : Nat} {cs : Array Value} {t : TypeId} (H : w.heap[g]? = some (.cells cs t (0, 0))) :
    w.frozen? ⟨g, 0, none⟩ = false ∧ w.frozen? ⟨g, 1, none⟩ = false ∧ w.frozen? ⟨g, 2, none⟩ = false ∧ w.frozen? ⟨g, 3, none⟩ = false ∧ w.frozen? ⟨g, 4, none⟩ = false ∧ w.frozen? ⟨g, 5, none⟩ = false ∧
    w.frozen? ⟨g, 6, none⟩ = false ∧ w.frozen? ⟨g, 7, none⟩ = false ∧ w.frozen? ⟨g, 8, none⟩ = false ∧ w.frozen? ⟨g, 9, none⟩ = false ∧ w.frozen? ⟨g, 10, none⟩ = false :=
  ⟨blk_free H 0, blk_free H 1, blk_free H 2, blk_free H 3, blk_free H 4, blk_free H 5, blk_free H 6, blk_free H 7, blk_free H 8, blk_free H 9, blk_free H 10⟩

theorem near_step {l : List Thr} {j : Nat} (h : j < l.length) : ((l.take j).map Thr.cut ++ l.drop j).set j l[j].cut = (l.take (j + 1)).map Thr.cut ++ l.drop (j + 1) := by
  have hl : ((l.take j).map Thr.cut).length = j := by simp; omega
  rw [List.set_append_right _ _ (by omega), hl, Nat.sub_self, List.drop_eq_getElem_cons h, List.set_cons_zero, List.take_succ_eq_append_getElem h, List.map_append, List.append_assoc]
  rfl
theorem near_at {us : List (Thr × Value)} {l : List Thr} {j : Nat} (h : us.map Prod.fst = (l.take j).map Thr.cut ++ l.drop j) (hj : j < l.length) (hu : j < us.length) : us[j].1 = l[j] := by
  have hl : ((l.take j).map Thr.cut).length = j := by simp; omega
  have e := congrArg (fun x => x[j]?) h
  simp only [List.getElem?_map] at e
  rw [List.getElem?_append_right (by omega), hl, Nat.sub_self, List.drop_eq_getElem_cons hj, List.getElem?_eq_getElem hu] at e
  simp only [Option.map_some, List.getElem?_cons_zero, Option.some.injEq] at e
  exact e
/-- the loop of near -/
def NearIn (r : Rep) (w : World) (base : Nat) (v : Value) (j : Nat) (W : World) : Prop := ∃ us : List (Thr × Value), OwnR thrCells 20 91 base W v us ∧ us.map Prod.fst = (r.threads.take j).map Thr.cut ++ r.threads.drop j ∧ ∀ u ∈ us, ThrIn w u
theorem NearIn.keep {r : Rep} {w : World} {base : Nat} {v : Value} {j : Nat} {W W' : World} (h : NearIn r w base v j W) (hk : ∀ us : List (Thr × Value), OwnR thrCells 20 91 base W v us → OwnR thrCells 20 91 base W' v us) : NearIn r w base v j W' := by
  obtain ⟨us, h1, h2, h3⟩ := h
  exact ⟨us, hk us h1, h2, h3⟩
theorem NearIn.done {r : Rep} {w : World} {base : Nat} {v : Value} {W : World} (h : NearIn r w base v r.threads.length W) : ∃ us : List (Thr × Value), OwnR thrCells 20 91 base W v us ∧ us.map Prod.fst = r.threads.map Thr.cut ∧ ∀ u ∈ us, ThrIn w u := by
  obtain ⟨us, h1, h2, h3⟩ := h
  exact ⟨us, h1, by simpa using h2, h3⟩
theorem min4 (n : Nat) (m : Nat) : ∃ k : Nat, k ≤ n ∧ (∀ {α : Type} (l : List α), l.length = n → l.take k = l.take m) ∧ (if (m : Int) < (n : Int) then (m : Int) else (n : Int)) = (k : Int) := by
  by_cases h : m < n
  · exact ⟨m, by omega, fun l _ => rfl, by rw [if_pos (by omega)]⟩
  · exact ⟨n, by omega, fun l hl => by rw [← hl, List.take_length, List.take_of_length_le (by omega)], by rw [if_neg (by omega)]⟩
set_option maxHeartbeats 1000000 in
set_option maxRecDepth 100000 in
theorem near_any (v : Value) (r : Rep) (n : Int) (w0 w : World) (h0w : Ext w0 w) (hr : RepAt w0 v r) (hsm : r.threads.length ≤ 1000) :
    Calls Try.prog 31 #[v, .int .i64 n] w (NearPost r n w0 w) := by
  obtain ⟨yw, yt, yo, rfl, hi⟩ := hr
  obtain ⟨A, ca, rfl, _, _⟩ := id hi.words
  obtain ⟨B, cb, rfl⟩ := hi.threads.form
  obtain ⟨C, cc, rfl⟩ := hi.output.form
  obtain ⟨zs, hzt, hzr, hzi⟩ := id hi.threads
  have hzl : zs.length = r.threads.length := by rw [← hzt]; simp
  have HI := Lib.hid hi
  have HZT := Lib.hid hzt
  have HZI := Lib.hid hzi
  have HZL := Lib.hid hzl
  clear hi hzt hzi hzl
  have h0s := h0w.size
  go_enter Try.func31, Try.ntmps31
  go_upto_region 1 with fail
  obtain ⟨W, hW, hE, hB, hD, hsz⟩ : ∃ W, W = (w.alloc (.cells #[.int .i64 r.err, .slice A r.words.length ca, .slice B r.threads.length cb, .slice C r.output.length cc, .int .i64 r.s0, .int .i64 r.s1, .int .i64 r.s2, .int .i64 r.s3, .int .i64 r.s4, .int .i64 r.s5, .int .i64 r.s6] 58)).alloc (.cells #[.int .i64 0, .slice none 0 0, .slice none 0 0, .slice none 0 0, .int .i64 0, .int .i64 0, .int .i64 0, .int .i64 0, .int .i64 0, .int .i64 0, .int .i64 0] 58) ∧ Ext w W ∧ W.heap[w.heap.size]? = some (.cells #[.int .i64 r.err, .slice A r.words.length ca, .slice B r.threads.length cb, .slice C r.output.length cc, .int .i64 r.s0, .int .i64 r.s1, .int .i64 r.s2, .int .i64 r.s3, .int .i64 r.s4, .int .i64 r.s5, .int .i64 r.s6] 58 (0, 0)) ∧ W.heap[w.heap.size + 1]? = some (.cells #[.int .i64 0, .slice none 0 0, .slice none 0 0, .slice none 0 0, .int .i64 0, .int .i64 0, .int .i64 0, .int .i64 0, .int .i64 0, .int .i64 0, .int .i64 0] 58 (0, 0)) ∧ W.heap.size = w.heap.size + 2 := ⟨_, rfl, ((Ext.refl w).alloc _).alloc _, ((Ext.refl _).alloc _).heap (heap_alloc_new w _), by have := heap_alloc_new (w.alloc (.cells #[.int .i64 r.err, .slice A r.words.length ca, .slice B r.threads.length cb, .slice C r.output.length cc, .int .i64 r.s0, .int .i64 r.s1, .int .i64 r.s2, .int .i64 r.s3, .int .i64 r.s4, .int .i64 r.s5, .int .i64 r.s6] 58)) (.cells #[.int .i64 0, .slice none 0 0, .slice none 0 0, .slice none 0 0, .int .i64 0, .int .i64 0, .int .i64 0, .int .i64 0, .int .i64 0, .int .i64 0, .int .i64 0] 58); simpa using this, by simp⟩
  have HSZ := Lib.hid hsz
  have hltb : w.heap.size < W.heap.size := by omega
  clear hsz
  rw [← hW]
  clear hW
  obtain ⟨q0, q1, q2, q3, q4, q5, q6, q7, q8, q9, q10⟩ := blk11 hB
  have hA1 := (Ext.refl W).alloc (.cells #[] 91)
  have hem := OwnR_empty (f := thrCells) (k := 20) W 91
  go_wp2_with (at_builtin; go_must (refine wpList_appendR elem_thr rfl (.tmp 6) (.tmp 8) rfl W.heap.size _ [] rfl hem _ zs rfl (hzr.ext (h0w.trans (hE.trans hA1))) (fun z hz => thr_len (HZI.out z hz).regs) (fun z hz => (HZI.out z hz).one) (by rw [HZL.out]; simp; omega) (by omega) (by simp) (Hold.out ?_)))
  refine Hold.mk fun v2 w2 ho2 hg2 => ?_
  have hX2 := hg2.ext hA1 hem.ge
  have hE2 := hE.trans hX2
  obtain ⟨B2, cb2, hv2, hcb2, _⟩ := ho2.inR
  rw [HZL.out] at hv2 hcb2
  subst hv2
  have hB2 := hX2.heap hB
  have hD2 := hX2.heap hD
  have hlt2 : w.heap.size + 2 ≤ w2.heap.size := by have := hX2.size; rw [HSZ.out] at this; exact this
  clear q0 q1 q2 q3 q4 q5 q6 q7 q8 q9 q10 hem hg2 hA1 hB hD hzr
  obtain ⟨q0, q1, q2, q3, q4, q5, q6, q7, q8, q9, q10⟩ := blk11 hB2
  have f2 := blk_free hB2 2
  have hg3 : w2.grownBy (w2.setCell ⟨w.heap.size, 2, none⟩ (.slice B2 r.threads.length cb2)) (some w.heap.size) := gset w2 ⟨w.heap.size, 2, none⟩ (.slice B2 r.threads.length cb2)
  have hB3 : (w2.setCell ⟨w.heap.size, 2, none⟩ (.slice B2 r.threads.length cb2)).heap[w.heap.size]? = some (.cells #[.int .i64 r.err, .slice A r.words.length ca, .slice B2 r.threads.length cb2, .slice C r.output.length cc, .int .i64 r.s0, .int .i64 r.s1, .int .i64 r.s2, .int .i64 r.s3, .int .i64 r.s4, .int .i64 r.s5, .int .i64 r.s6] 58 (0, 0)) := blk_set hB2 2 (.slice B2 r.threads.length cb2)
  have hD3 := blk_grown hD2 hg3 (by simp)
  have ho3 := ho2.kept hg3 (.inr (ho2.ne_blk hB2 (by decide)))
  have hE3 := hE2.grown hg3 (fun k e => by cases e; omega)
  have hN3 : NearIn r w0 W.heap.size (.slice B2 r.threads.length cb2) 0 (w2.setCell ⟨w.heap.size, 2, none⟩ (.slice B2 r.threads.length cb2)) := ⟨zs, ho3, by simpa using HZT.out, HZI.out⟩
  go_wp2_with fail
  clear q0 q1 q2 q3 q4 q5 q6 q7 q8 q9 q10 f2 hg3 ho2 ho3 hB2 hD2 hE2 hX2 hlt2
  generalize w2.setCell ⟨w.heap.size, 2, none⟩ (.slice B2 r.threads.length cb2) = w3 at *
  go_loopw [5] (fun i wr => ∃ j : Nat, j ≤ r.threads.length ∧ i = .int .i64 (j : Int) ∧ NearIn r w0 W.heap.size (.slice B2 r.threads.length cb2) j wr ∧ wr.heap[w.heap.size]? = some (.cells #[.int .i64 r.err, .slice A r.words.length ca, .slice B2 r.threads.length cb2, .slice C r.output.length cc, .int .i64 r.s0, .int .i64 r.s1, .int .i64 r.s2, .int .i64 r.s3, .int .i64 r.s4, .int .i64 r.s5, .int .i64 r.s6] 58 (0, 0)) ∧ wr.heap[w.heap.size + 1]? = some (.cells #[.int .i64 0, .slice none 0 0, .slice none 0 0, .slice none 0 0, .int .i64 0, .int .i64 0, .int .i64 0, .int .i64 0, .int .i64 0, .int .i64 0, .int .i64 0] 58 (0, 0)) ∧ Ext w wr) (fun i _ => r.threads.length - (intOf i).toNat)
  case atStart => exact ⟨0, by omega, rfl, hN3, hB3, hD3, hE3⟩
  case round =>
    clear hN3 hB3 hD3 hE3
    obtain ⟨j, hj, rfl, hN, hBj, hDj, hEj⟩ := hrel
    obtain ⟨wo, rfl⟩ : ∃ wo : World, wo = wr := ⟨_, rfl⟩
    by_cases hlt : j < r.threads.length
    · obtain ⟨us, ho, hmap, hin⟩ := hN
      have hul : us.length = r.threads.length := by have := congrArg List.length hmap; simp at this; omega
      have hju : j < us.length := by omega
      obtain ⟨g, cap, hv, hbg, hglt⟩ := ho.form (by omega)
      injection hv with e1 e2 e3
      subst e1
      have hat := ho.at_ hul.symm (fun z hz => thr_len (hin z hz).regs) j 19 hju (by omega)
      have hn1 := near_at hmap hlt hju
      have hz := hin _ (List.getElem_mem hju)
      rcases huj : us[j] with ⟨t, y⟩
      rw [huj] at hat hn1 hz
      obtain ⟨hreg, harg⟩ := hz.both
      obtain ⟨Y, cy, rfl, hcy, _⟩ := id harg
      simp only at hn1
      have c19 : wo.cell? ⟨g, j * 20 + 19, none⟩ = some (.slice Y t.args.length cy) := by rw [hat.1]; exact thr_19 (z := (t, _)) hreg
      have f19 := hat.2
      obtain ⟨m, hm1, hm2, hm3⟩ := min4 t.args.length 4
      replace hm3 : (if (4 : Int) < (t.args.length : Int) then (4 : Int) else (t.args.length : Int)) = (m : Int) := hm3
      have hmc : (m : Int) ≤ (cy : Int) := by omega
      have hpre := InV.pre2 harg m hm1
      have HIN := Lib.hid hin
      have HMP := Lib.hid hmap
      have HN1 := Lib.hid hn1
      have HPR := Lib.hid hpre
      have HM2 := Lib.hid (hm2 t.args rfl)
      have HUJ := Lib.hid huj
      have hltw := World.block_lt_of_cell? _ _ c19
      simp only at hltw
      have hgb := hbg
      rw [HSZ.out] at hgb
      clear hat hz hn1 hin hmap hpre hm2 e2 e3 huj
      have hij : (j : Int) < (r.threads.length : Int) := by omega
      obtain ⟨q0, q1, q2, q3, q4, q5, q6, q7, q8, q9, q10⟩ := blk11 hBj
      go_wp2_with fail
      refine wp_region_still_tail 18 (by kernel_rfl) (by kernel_rfl) ?_
      simp only [List.take_succ_cons, List.take_zero, List.drop_succ_cons, List.drop_zero]
      still_step
      still_step
      still_step
      still_step
      still_step
      still_step
      still_step
      still_step
      still_step
      still_step
      still_step
      still_step
      still_step
      still_step
      still_step
      still_step
      still_step
      still_step
      refine wpStill_nil ?_
      change wpList _ _ _ _ _ wo.drew
      have hd := (Ext.refl wo).drew
      have hB5 := hd.heap hBj
      have hD5 := hd.heap hDj
      have c195 := hd.cell c19
      have ho5 := ho.ext hd
      have hE5 := hEj.trans hd
      clear q0 q1 q2 q3 q4 q5 q6 q7 q8 q9 q10 c19 f19 hBj hDj ho hEj hd hm3 hmc
      generalize wo.drew = w5 at *
      have f195 := (ho5.at_ hul.symm (fun z hz => thr_len (HIN.out z hz).regs) j 19 hju (by omega)).2
      have hput := ho5.put hul.symm (fun z hz => thr_len (HIN.out z hz).regs) j 19 hju (by omega) (t.cut, .slice Y m cy) (.slice Y m cy) (by have e := HUJ.out; rw [e]; exact thr_set hreg)
      have HPU := Lib.hid hput
      clear hput
      obtain ⟨q0, q1, q2, q3, q4, q5, q6, q7, q8, q9, q10⟩ := blk11 hB5
      go_wp2_with fail
      go_roundw
      case rel =>
        have hgp := HPU.out.2
        refine ⟨j + 1, by omega, by go_num, ⟨us.set j (t.cut, .slice Y m cy), HPU.out.1, ?_, ?_⟩, blk_grown hB5 hgp (by simp; omega), blk_grown hD5 hgp (by simp; omega), hE5.grown hgp (fun k e => by cases e; omega)⟩
        · rw [List.map_set, HMP.out, ← near_step hlt, HN1.out]
        · intro u hu
          rcases List.mem_or_eq_of_mem_set hu with h | rfl
          · exact HIN.out u h
          · exact ⟨hreg, by have := HPR.out; rw [HM2.out] at this; exact this⟩
      case measure => simp [intOf]; omega
    · obtain rfl : j = r.threads.length := by omega
      obtain ⟨us, ho, hmap, hin⟩ := hN.done
      clear hN
      have hul : us.length = r.threads.length := by have := congrArg List.length hmap; simpa using this
      obtain ⟨m4, hm1, hm2, hm3⟩ := min4 r.threads.length 8
      replace hm3 : (if (8 : Int) < (r.threads.length : Int) then (8 : Int) else (r.threads.length : Int)) = (m4 : Int) := hm3
      have hmc : (m4 : Int) ≤ (cb2 : Int) := by omega
      have HMP : Hid ((us.take m4).map Prod.fst = (r.threads.map Thr.cut).take 8) := Lib.hid (by rw [List.map_take, hmap, hm2 _ (by simp)])
      have HIN := Lib.hid hin
      clear hmap hin hm2
      obtain ⟨q0, q1, q2, q3, q4, q5, q6, q7, q8, q9, q10⟩ := blk11 hBj
      have f2 := blk_free hBj 2
      have hg4 : wo.grownBy (wo.setCell ⟨w.heap.size, 2, none⟩ (.slice B2 m4 cb2)) (some w.heap.size) := gset wo ⟨w.heap.size, 2, none⟩ (.slice B2 m4 cb2)
      have hB4 : (wo.setCell ⟨w.heap.size, 2, none⟩ (.slice B2 m4 cb2)).heap[w.heap.size]? = some (.cells #[.int .i64 r.err, .slice A r.words.length ca, .slice B2 m4 cb2, .slice C r.output.length cc, .int .i64 r.s0, .int .i64 r.s1, .int .i64 r.s2, .int .i64 r.s3, .int .i64 r.s4, .int .i64 r.s5, .int .i64 r.s6] 58 (0, 0)) := blk_set hBj 2 (.slice B2 m4 cb2)
      have hD4 := blk_grown hDj hg4 (by simp)
      have ho4 := ho.kept hg4 (.inr (ho.ne_blk hBj (by decide)))
      have hE4 := hEj.grown hg4 (fun k e => by cases e; omega)
      go_wp2_with fail
      clear q0 q1 q2 q3 q4 q5 q6 q7 q8 q9 q10 f2 hg4 hmc hBj hDj hEj ho hm3
      generalize wo.setCell ⟨w.heap.size, 2, none⟩ (.slice B2 m4 cb2) = w4 at *
      refine (Mod_any n 8 w4 (by omega) (by omega)).mono ?_
      rintro e w5 ⟨rfl, rfl⟩
      obtain ⟨q0, q1, q2, q3, q4, q5, q6, q7, q8, q9, q10⟩ := blk11 hB4
      obtain ⟨z0, z1, z2, z3, z4, z5, z6, z7, z8, z9, z10⟩ := blk11 hD4
      have lt4 := World.block_lt_of_cell? _ _ z0
      simp only at lt4
      have lt5 : w.heap.size < w4.heap.size := by omega
      by_cases h0 : n % 8 = 0
      · have e0 : (n % 8 == 0) = true := by simpa using h0
        obtain ⟨k, hk1, hk⟩ := and_i64_mask n 1 (by omega)
        have hk' : bits .and .i64 n 1 = (k : Int) := by simpa using hk
        have hmk : ∀ W, (Instr.makeSlice 26 (.int .i64 (128 + (k : Int))) (.int .i64 (128 + (k : Int)))).run Try.prog W = .ok (.slice (some ⟨W.heap.size, 0, none⟩) (128 + k) (128 + k)) (W.alloc (.cells (madeCells #[.int .i64 0] (128 + k)) 3)) := fun W => by
          have := run_make_row' (P := Try.prog) 26 3 _ _ Try.underlying26 int_info rfl .i64 .i64 (128 + k) (by omega) (by omega) W
          simpa using this
        have f1 := blk_free hB4 1
        go_upto_region 12 with fail
        have hg5 : w4.grownBy (w4.setCell ⟨w.heap.size, 1, none⟩ (.slice (some ⟨w4.heap.size, 0, none⟩) (128 + k) (128 + k))) (some w.heap.size) := gset w4 ⟨w.heap.size, 1, none⟩ (.slice (some ⟨w4.heap.size, 0, none⟩) (128 + k) (128 + k))
        have hB5 : (w4.setCell ⟨w.heap.size, 1, none⟩ (.slice (some ⟨w4.heap.size, 0, none⟩) (128 + k) (128 + k))).heap[w.heap.size]? = some (.cells #[.int .i64 r.err, .slice (some ⟨w4.heap.size, 0, none⟩) (128 + k) (128 + k), .slice B2 m4 cb2, .slice C r.output.length cc, .int .i64 r.s0, .int .i64 r.s1, .int .i64 r.s2, .int .i64 r.s3, .int .i64 r.s4, .int .i64 r.s5, .int .i64 r.s6] 58 (0, 0)) := blk_set hB4 1 (.slice (some ⟨w4.heap.size, 0, none⟩) (128 + k) (128 + k))
        have hD5 := blk_grown hD4 hg5 (by simp)
        have ho5 := ho4.kept hg5 (.inr (ho4.ne_blk hB4 (by decide)))
        have hE5 := hE4.grown hg5 (fun k e => by cases e; omega)
        have hA6 := (Ext.refl (w4.setCell ⟨w.heap.size, 1, none⟩ (.slice (some ⟨w4.heap.size, 0, none⟩) (128 + k) (128 + k)))).alloc (.cells (madeCells #[.int .i64 0] (128 + k)) 3)
        have hsz5 : (w4.setCell ⟨w.heap.size, 1, none⟩ (.slice (some ⟨w4.heap.size, 0, none⟩) (128 + k) (128 + k))).heap.size = w4.heap.size := by simp [World.setCell]
        have hn6 := OwnV_newN (f := iv) (w4.setCell ⟨w.heap.size, 1, none⟩ (.slice (some ⟨w4.heap.size, 0, none⟩) (128 + k) (128 + k))) (List.replicate (128 + k) 0) (128 + k) (by simp) (by omega) (madeCells #[.int .i64 0] (128 + k)) (by rw [made_list, List.map_replicate]; rfl) 3
        rw [hsz5] at hn6
        have hB6 := hA6.heap hB5
        have hD6 := hA6.heap hD5
        have ho6 := ho5.ext hA6
        have hE6 := hE5.trans hA6
        clear hmk f1 q0 q1 q2 q3 q4 q5 q6 q7 q8 q9 q10 z0 z1 z2 z3 z4 z5 z6 z7 z8 z9 z10 hg5 hB5 hD5 ho5 hE5 hA6 hsz5
        generalize (w4.setCell ⟨w.heap.size, 1, none⟩ (.slice (some ⟨w4.heap.size, 0, none⟩) (128 + k) (128 + k))).alloc (.cells (madeCells #[.int .i64 0] (128 + k)) 3) = w6 at *
        obtain ⟨q0, q1, q2, q3, q4, q5, q6, q7, q8, q9, q10⟩ := blk11 hB6
        obtain ⟨z0, z1, z2, z3, z4, z5, z6, z7, z8, z9, z10⟩ := blk11 hD6
        obtain ⟨f0, f1, f2, f3, f4, f5, f6, f7, f8, f9, f10⟩ := blk11f hD6
        go_wp2_with fail
        obtain ⟨W7, hW7, hB7, hg7⟩ := store11 hD6 (.int .i64 r.err) (.slice (some ⟨w4.heap.size, 0, none⟩) (128 + k) (128 + k)) (.slice B2 m4 cb2) (.slice C r.output.length cc) (.int .i64 r.s0) (.int .i64 r.s1) (.int .i64 r.s2) (.int .i64 r.s3) (.int .i64 r.s4) (.int .i64 r.s5) (.int .i64 r.s6)
        rw [hW7]
        clear hW7 q0 q1 q2 q3 q4 q5 q6 q7 q8 q9 q10 z0 z1 z2 z3 z4 z5 z6 z7 z8 z9 z10 f0 f1 f2 f3 f4 f5 f6 f7 f8 f9 f10
        obtain ⟨b0, b1, b2, b3, b4, b5, b6, b7, b8, b9, b10⟩ := blk11 hB7
        go_wp2_with fail
        refine bodyPost_ret (v := .agg #[.int .i64 r.err, .slice (some ⟨w4.heap.size, 0, none⟩) (128 + k) (128 + k), .slice B2 m4 cb2, .slice C r.output.length cc, .int .i64 r.s0, .int .i64 r.s1, .int .i64 r.s2, .int .i64 r.s3, .int .i64 r.s4, .int .i64 r.s5, .int .i64 r.s6]) (by simp [results, Try.results31, go_sem, b0, b1, b2, b3, b4, b5, b6, b7, b8, b9, b10]) rfl ?_
        have hE7 := hE6.grown hg7 (fun k e => by cases e; omega)
        have ho7 := ho6.kept hg7 (.inr (ho6.ne_blk hD6 (by decide)))
        have ht7 := (⟨B2, r.threads.length, m4, cb2, us, rfl, hm1, ho7.low (by have := h0w.size; have := HSZ.out; omega), hul, HMP.out, HIN.out⟩ : ∃ B n m c us, Value.slice B2 m4 cb2 = .slice B m c ∧ m ≤ n ∧ OwnR thrCells 20 91 w0.heap.size W7 (.slice B n c) us ∧ us.length = n ∧ (us.take m).map Prod.fst = (r.threads.map Thr.cut).take 8 ∧ ∀ u ∈ us, ThrIn w0 u)
        have hn7 := hn6.kept hg7 (.inr (hn6.ne_blk hD6 (by decide)))
        refine ⟨_, _, _, ⟨r.err, List.replicate (128 + k) 0, (r.threads.map Thr.cut).take 8, r.output, r.s0, r.s1, r.s2, r.s3, r.s4, r.s5, r.s6⟩, rfl, ⟨.inr (hn7.low (by omega)), ht7, .inl HI.out.output⟩, ⟨rfl, fun e => by omega, fun h => ⟨h.err, fun x hx => by rw [(List.mem_replicate.1 hx).2]; exact ⟨by omega, by omega⟩, near_thr_ok h, h.output, h.stop⟩, .inl (by simp; omega), .inr (Nat.le_refl _)⟩, fun e => by omega, hE7⟩
      have e0 : (n % 8 == 0) = false := by simpa using h0
      by_cases h1 : n % 8 = 1
      · have e1 : (n % 8 == 1) = true := by simpa using h1
        obtain ⟨k, hk1, hk⟩ := and_i64_mask (wrap64 (n.tdiv 8)) 1 (by omega)
        have hk' : bits .and .i64 (wrap64 (n.tdiv 8)) 1 = (k : Int) := by simpa using hk
        obtain ⟨ip, zp, hip, hzp, hsp, hbp, _⟩ := elem_pr.info
        have hzp' : zp = .agg #[.int .i64 0, .int .i64 0] := by
          have h := pr_info
          rw [hip] at h
          simp only [Option.map_some, Option.some.injEq, Prod.mk.injEq, hzp] at h
          exact h.1
        have hmk : ∀ W, (Instr.makeSlice 54 (.int .i64 (128 + (k : Int))) (.int .i64 (128 + (k : Int)))).run Try.prog W = .ok (.slice (some ⟨W.heap.size, 0, none⟩) (128 + k) (128 + k)) (W.alloc (.cells (madeCells #[.int .i64 0, .int .i64 0] ((128 + k) * 2)) 62)) := fun W => by
          have h := run_make (P := Try.prog) W 54 62 ip zp Try.underlying54 hip hzp .i64 .i64 (128 + (k : Int)) (128 + (k : Int)) (by omega) (by omega) (by rw [hbp]; omega) (by omega)
          rw [show (128 + (k : Int)).toNat = 128 + k by omega, hsp, hzp'] at h
          exact h
        have f3 := blk_free hB4 3
        clear hip hzp hsp hbp hzp' hk
        go_upto_region 12 with fail
        have hg5 : w4.grownBy (w4.setCell ⟨w.heap.size, 3, none⟩ (.slice (some ⟨w4.heap.size, 0, none⟩) (128 + k) (128 + k))) (some w.heap.size) := gset w4 ⟨w.heap.size, 3, none⟩ (.slice (some ⟨w4.heap.size, 0, none⟩) (128 + k) (128 + k))
        have hB5 : (w4.setCell ⟨w.heap.size, 3, none⟩ (.slice (some ⟨w4.heap.size, 0, none⟩) (128 + k) (128 + k))).heap[w.heap.size]? = some (.cells #[.int .i64 r.err, .slice A r.words.length ca, .slice B2 m4 cb2, .slice (some ⟨w4.heap.size, 0, none⟩) (128 + k) (128 + k), .int .i64 r.s0, .int .i64 r.s1, .int .i64 r.s2, .int .i64 r.s3, .int .i64 r.s4, .int .i64 r.s5, .int .i64 r.s6] 58 (0, 0)) := blk_set hB4 3 (.slice (some ⟨w4.heap.size, 0, none⟩) (128 + k) (128 + k))
        have hD5 := blk_grown hD4 hg5 (by simp)
        have ho5 := ho4.kept hg5 (.inr (ho4.ne_blk hB4 (by decide)))
        have hE5 := hE4.grown hg5 (fun k e => by cases e; omega)
        have hA6 := (Ext.refl (w4.setCell ⟨w.heap.size, 3, none⟩ (.slice (some ⟨w4.heap.size, 0, none⟩) (128 + k) (128 + k)))).alloc (.cells (madeCells #[.int .i64 0, .int .i64 0] ((128 + k) * 2)) 62)
        have hsz5 : (w4.setCell ⟨w.heap.size, 3, none⟩ (.slice (some ⟨w4.heap.size, 0, none⟩) (128 + k) (128 + k))).heap.size = w4.heap.size := by simp [World.setCell]
        have hn6 := OwnR_newN (f := outCells) (k := 2) (w4.setCell ⟨w.heap.size, 3, none⟩ (.slice (some ⟨w4.heap.size, 0, none⟩) (128 + k) (128 + k))) (List.replicate (128 + k) ((0 : Int), (0 : Int))) (128 + k) (by simp) (by omega) (fun _ _ => rfl) (madeCells #[.int .i64 0, .int .i64 0] ((128 + k) * 2)) (made_list2 _) 62
        rw [hsz5] at hn6
        have hB6 := hA6.heap hB5
        have hD6 := hA6.heap hD5
        have ho6 := ho5.ext hA6
        have hE6 := hE5.trans hA6
        clear hmk f3 q0 q1 q2 q3 q4 q5 q6 q7 q8 q9 q10 z0 z1 z2 z3 z4 z5 z6 z7 z8 z9 z10 hg5 hB5 hD5 ho5 hE5 hA6 hsz5
        generalize (w4.setCell ⟨w.heap.size, 3, none⟩ (.slice (some ⟨w4.heap.size, 0, none⟩) (128 + k) (128 + k))).alloc (.cells (madeCells #[.int .i64 0, .int .i64 0] ((128 + k) * 2)) 62) = w6 at *
        obtain ⟨q0, q1, q2, q3, q4, q5, q6, q7, q8, q9, q10⟩ := blk11 hB6
        obtain ⟨z0, z1, z2, z3, z4, z5, z6, z7, z8, z9, z10⟩ := blk11 hD6
        obtain ⟨f0, f1, f2, f3, f4, f5, f6, f7, f8, f9, f10⟩ := blk11f hD6
        go_wp2_with fail
        obtain ⟨W7, hW7, hB7, hg7⟩ := store11 hD6 (.int .i64 r.err) (.slice A r.words.length ca) (.slice B2 m4 cb2) (.slice (some ⟨w4.heap.size, 0, none⟩) (128 + k) (128 + k)) (.int .i64 r.s0) (.int .i64 r.s1) (.int .i64 r.s2) (.int .i64 r.s3) (.int .i64 r.s4) (.int .i64 r.s5) (.int .i64 r.s6)
        rw [hW7]
        clear hW7 q0 q1 q2 q3 q4 q5 q6 q7 q8 q9 q10 z0 z1 z2 z3 z4 z5 z6 z7 z8 z9 z10 f0 f1 f2 f3 f4 f5 f6 f7 f8 f9 f10
        obtain ⟨b0, b1, b2, b3, b4, b5, b6, b7, b8, b9, b10⟩ := blk11 hB7
        go_wp2_with fail
        refine bodyPost_ret (v := .agg #[.int .i64 r.err, .slice A r.words.length ca, .slice B2 m4 cb2, .slice (some ⟨w4.heap.size, 0, none⟩) (128 + k) (128 + k), .int .i64 r.s0, .int .i64 r.s1, .int .i64 r.s2, .int .i64 r.s3, .int .i64 r.s4, .int .i64 r.s5, .int .i64 r.s6]) (by simp [results, Try.results31, go_sem, b0, b1, b2, b3, b4, b5, b6, b7, b8, b9, b10]) rfl ?_
        have hE7 := hE6.grown hg7 (fun k e => by cases e; omega)
        have ho7 := ho6.kept hg7 (.inr (ho6.ne_blk hD6 (by decide)))
        have ht7 := (⟨B2, r.threads.length, m4, cb2, us, rfl, hm1, ho7.low (by have := h0w.size; have := HSZ.out; omega), hul, HMP.out, HIN.out⟩ : ∃ B n m c us, Value.slice B2 m4 cb2 = .slice B m c ∧ m ≤ n ∧ OwnR thrCells 20 91 w0.heap.size W7 (.slice B n c) us ∧ us.length = n ∧ (us.take m).map Prod.fst = (r.threads.map Thr.cut).take 8 ∧ ∀ u ∈ us, ThrIn w0 u)
        have hn7 := hn6.kept hg7 (.inr (hn6.ne_blk hD6 (by decide)))
        have hol : ∀ x ∈ outL (List.replicate (128 + k) ((0 : Int), (0 : Int))), I64 x := by
          intro x hx
          simp only [outL, List.mem_flatMap, List.mem_replicate] at hx
          obtain ⟨p, ⟨_, rfl⟩, hx⟩ := hx
          simp at hx
          subst hx
          exact ⟨by omega, by omega⟩
        refine ⟨_, _, _, ⟨r.err, r.words, (r.threads.map Thr.cut).take 8, List.replicate (128 + k) ((0 : Int), (0 : Int)), r.s0, r.s1, r.s2, r.s3, r.s4, r.s5, r.s6⟩, rfl, ⟨.inl HI.out.words, ht7, .inr (hn7.low (by omega))⟩, ⟨rfl, fun e => by omega, fun h => ⟨h.err, h.words, near_thr_ok h, hol, h.stop⟩, .inr (Nat.le_refl _), .inl (by simp; omega)⟩, fun e => by omega, hE7⟩
      · have e1 : (n % 8 == 1) = false := by simpa using h1
        clear q0 q1 q2 q3 q4 q5 q6 q7 q8 q9 q10 z0 z1 z2 z3 z4 z5 z6 z7 z8 z9 z10
        go_upto_region 12 with fail
        have hB6 := hB4
        have hD6 := hD4
        have ho6 := ho4
        have hE6 := hE4
        obtain ⟨q0, q1, q2, q3, q4, q5, q6, q7, q8, q9, q10⟩ := blk11 hB6
        obtain ⟨z0, z1, z2, z3, z4, z5, z6, z7, z8, z9, z10⟩ := blk11 hD6
        obtain ⟨f0, f1, f2, f3, f4, f5, f6, f7, f8, f9, f10⟩ := blk11f hD6
        go_wp2_with fail
        obtain ⟨W7, hW7, hB7, hg7⟩ := store11 hD6 (.int .i64 r.err) (.slice A r.words.length ca) (.slice B2 m4 cb2) (.slice C r.output.length cc) (.int .i64 r.s0) (.int .i64 r.s1) (.int .i64 r.s2) (.int .i64 r.s3) (.int .i64 r.s4) (.int .i64 r.s5) (.int .i64 r.s6)
        rw [hW7]
        clear hW7 q0 q1 q2 q3 q4 q5 q6 q7 q8 q9 q10 z0 z1 z2 z3 z4 z5 z6 z7 z8 z9 z10 f0 f1 f2 f3 f4 f5 f6 f7 f8 f9 f10
        obtain ⟨b0, b1, b2, b3, b4, b5, b6, b7, b8, b9, b10⟩ := blk11 hB7
        go_wp2_with fail
        refine bodyPost_ret (v := .agg #[.int .i64 r.err, .slice A r.words.length ca, .slice B2 m4 cb2, .slice C r.output.length cc, .int .i64 r.s0, .int .i64 r.s1, .int .i64 r.s2, .int .i64 r.s3, .int .i64 r.s4, .int .i64 r.s5, .int .i64 r.s6]) (by simp [results, Try.results31, go_sem, b0, b1, b2, b3, b4, b5, b6, b7, b8, b9, b10]) rfl ?_
        have hE7 := hE6.grown hg7 (fun k e => by cases e; omega)
        have ho7 := ho6.kept hg7 (.inr (ho6.ne_blk hD6 (by decide)))
        have ht7 := (⟨B2, r.threads.length, m4, cb2, us, rfl, hm1, ho7.low (by have := h0w.size; have := HSZ.out; omega), hul, HMP.out, HIN.out⟩ : ∃ B n m c us, Value.slice B2 m4 cb2 = .slice B m c ∧ m ≤ n ∧ OwnR thrCells 20 91 w0.heap.size W7 (.slice B n c) us ∧ us.length = n ∧ (us.take m).map Prod.fst = (r.threads.map Thr.cut).take 8 ∧ ∀ u ∈ us, ThrIn w0 u)
        refine ⟨_, _, _, r.near, rfl, ⟨.inl HI.out.words, ht7, .inl HI.out.output⟩, ⟨rfl, fun _ => rfl, fun h => ⟨h.err, h.words, near_thr_ok h, h.output, h.stop⟩, .inr (Nat.le_refl _), .inr (Nat.le_refl _)⟩, fun _ => ⟨HI.out.words, HI.out.output⟩, hE7⟩
end Go.Proofs.Ytoeibcpjmoekpaa
