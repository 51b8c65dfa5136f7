/- Replies: words for threads, printed numbers and replies in memory. No statement about the program. -/
import Derived.Test.YtoeibcpjmoekpaaMsgP
import Derived.Deep.MidRow
import Derived.Deep.WholeRow
namespace Go.Proofs.Ytoeibcpjmoekpaa
open Go.RowKit
set_option linter.unusedVariables false

section
variable {α : Type} {f : α → List Value} {k : Nat}
theorem flat_len : ∀ (l : List α), (∀ a ∈ l, (f a).length = k) → (l.flatMap f).length = l.length * k
  | [], _ => by simp
  | a :: l, h => by
    rw [List.flatMap_cons, List.length_append, flat_len l (fun x hx => h x (by simp [hx])), h a (by simp), List.length_cons, Nat.succ_mul]; omega
theorem flat_get : ∀ (l : List α), (∀ a ∈ l, (f a).length = k) → ∀ (j i : Nat) (hj : j < l.length), i < k → (l.flatMap f)[j * k + i]? = (f l[j])[i]?
  | [], _, j, i, hj, _ => by simp at hj
  | a :: l, h, j, i, hj, hi => by
    have ha := h a (by simp)
    rw [List.flatMap_cons]
    rcases j with _ | j
    · rw [List.getElem?_append_left (by omega)]; simp
    · rw [List.getElem?_append_right (by rw [ha, Nat.succ_mul]; omega), ha, show (j + 1) * k + i - k = j * k + i by rw [Nat.succ_mul]; omega]
      exact flat_get l (fun x hx => h x (by simp [hx])) j i (by simpa using hj) hi
/-- the value is a slice of elements of several cells -/
def InR (f : α → List Value) (w : World) (x : Value) (l : List α) : Prop := ∃ A c, x = .slice A l.length c ∧ l.length ≤ c ∧ Rd w A (l.flatMap f)
theorem InR.ext {w w' : World} {x : Value} {l : List α} (h : InR f w x l) (he : Ext w w') : InR f w' x l := by
  obtain ⟨A, c, rfl, hc, hr⟩ := h
  exact ⟨A, c, rfl, hc, hr.ext he⟩
theorem InR.nil (w : World) : InR f w (.slice none 0 0) [] := ⟨none, 0, rfl, Nat.le_refl _, Rd.nil⟩
theorem InR.at_ {w : World} {A : Option Addr} {n c : Nat} {l : List α} (h : InR f w (.slice A n c) l) (hl : ∀ a ∈ l, (f a).length = k) (h0 : 0 < k) {j : Nat} (hj : j < l.length) :
    ∃ b off, A = some ⟨b, off, none⟩ ∧ w.rangeAt b (off + j * k) (f l[j]) := by
  obtain ⟨A', c', e, _, hr⟩ := h
  cases e
  have hlen := flat_len l hl
  have hjk : j * k + k ≤ l.length * k := by rw [← Nat.succ_mul]; exact Nat.mul_le_mul_right _ hj
  obtain ⟨b, off, rfl, _⟩ := hr.at2 (k := j * k) (by omega)
  refine ⟨b, off, rfl, fun i u hu => ?_⟩
  have hi : i < k := by rw [← hl l[j] (List.getElem_mem hj)]; exact (List.getElem?_eq_some_iff.1 hu).1
  have hg := flat_get l hl j i hj hi
  obtain ⟨b', off', e, hc⟩ := hr.at2 (k := j * k + i) (by omega)
  cases e
  rw [Nat.add_assoc, hc, ← hu, ← hg, List.getElem?_eq_getElem]
/-- a row of the call's own, elements of several cells -/
def OwnR (f : α → List Value) (k : Nat) (e : TypeId) (base : Nat) (w : World) (v : Value) (l : List α) : Prop := w.ownsRow base e k v l.length (l.flatMap f)
variable {e : TypeId} {base : Nat} {w w' : World} {v : Value} {l : List α}
theorem OwnR.nil (w : World) : OwnR f k e base w (.slice none 0 0) [] := World.ownsRow_nil w base e k
theorem OwnR.inR (h : OwnR f k e base w v l) : InR f w v l := by
  rcases h.2 with ⟨rfl, h0⟩ | ⟨g, cap, cur, rfl, r⟩
  · have h' : w.ownsRow base e k (.slice none 0 0) l.length (l.flatMap f) := h
    rw [h0] at h'
    exact ⟨none, 0, by rw [h0], by omega, Rd.own h'⟩
  · exact ⟨_, cap, rfl, r.2.2.1, Rd.own (c := cap) h⟩
theorem OwnR.ge (h : OwnR f k e base w v l) : ∀ x, v.ownBlock = some x → base ≤ x := fun x hx => (World.ownsRow.lt h x hx).1
theorem OwnR.ext (h : OwnR f k e base w v l) (he : Ext w w') : OwnR f k e base w' v l := he.ownsRow h
theorem OwnR.kept {row : Option Nat} (h : OwnR f k e base w v l) (hg : w.grownBy w' row) (hne : v.ownBlock = none ∨ v.ownBlock ≠ row) : OwnR f k e base w' v l := World.ownsRow.kept h hg hne
theorem OwnR.low {base' : Nat} (h : OwnR f k e base w v l) (hb : base' ≤ base) : OwnR f k e base' w v l :=
  ⟨h.1, h.2.imp id fun ⟨g, cap, cur, hv, hg, r⟩ => ⟨g, cap, cur, hv, Nat.le_trans hb hg, r⟩⟩
theorem OwnR.ne_blk (h : OwnR f k e base w v l) {g : Nat} {cs : Array Value} {t : TypeId} {fr : Nat × Nat} (hb : w.heap[g]? = some (.cells cs t fr)) (hne : e ≠ t) : v.ownBlock ≠ some g := fun ee => by
  rcases h.2 with ⟨rfl, _⟩ | ⟨g', cap, cur, rfl, _, hg, _⟩
  · cases ee
  · have : g' = g := by simpa [Value.ownBlock] using ee
    subst this
    rw [hb] at hg
    injection hg with hg
    injection hg with _ he
    exact hne he.symm
end
/-- what an append asks of an element type of k cells -/
structure ElemN (P : Program) (t e : TypeId) (k bytes : Nat) : Prop where
  slice : P.underlying t = some (.slice e)
  pos : 0 < k
  info : ∃ i z, P.info? e = some i ∧ i.zero = some z ∧ i.size = k ∧ i.bytes = bytes ∧ z.cells.size = k
theorem wpList_appendR {α : Type} {f : α → List Value} {P : Program} {t e : TypeId} {k bytes : Nat} (he : ElemN P t e k bytes) {w : World} {ops : Array Oper} {rest : List Oper} {o : Oper} {a : Act} {Q : Exit → Act → World → Prop} (hgd : o.guard = none) (s x : Operand)
    (ho : o.op = .call { callee := .builtin .append, args := #[s, x], argTypes := #[t, t] })
    (base : Nat) (v : Value) (l : List α) (hs : a.eval s = v) (hown : OwnR f k e base w v l)
    (y : Value) (m : List α) (hx : a.eval x = y) (hr : InR f w y m) (hm : ∀ a ∈ m, (f a).length = k) (h1 : ∀ a ∈ m, ∀ u ∈ f a, u.oneCell' = true)
    (h63 : l.length + m.length ≤ 1073741824) (hb : bytes ≤ 4096) (hbase : base ≤ w.heap.size)
    (h : ∀ v' w', OwnR f k e base w' v' (l ++ m) → Grew w w' v v' → wpList P ops Q rest (a.put o.dst v') w') : wpList P ops Q (o :: rest) a w := by
  obtain ⟨i0, z, hi, hz0, hz1, hz2, hzc⟩ := he.info
  obtain ⟨A, c, rfl, _, hr⟩ := hr
  exact wpList_append_rd hgd s x _ ho base _ i0 _ k bytes he.slice hi hz0 hz1 hz2 hzc he.pos v l.length _ hs hown A m.length c (m.flatMap f) hx (flat_len m hm) hr (fun u hu => by
      obtain ⟨b, hb, hu⟩ := List.mem_flatMap.1 hu
      exact h1 b hb u hu)
    (by simp only [maxLen]; omega) (by
      have : (l.length + m.length) * bytes ≤ 1073741824 * 4096 := Nat.mul_le_mul h63 hb
      omega) hbase fun v' w' h2 h3 h4 => h v' w' (by unfold OwnR; simpa using h2) (Grew.of_append h3 h4)

/-- a thread -/
structure Thr where
  state : Int
  regs : List Int
  pc : Int
  func : Int
  args : List Int
def Thr.nums (t : Thr) : List Int := [t.state, t.func, t.pc] ++ t.regs
structure Thr.Ok (t : Thr) : Prop where
  nums : ∀ x ∈ t.nums, I64 x
  args : ∀ x ∈ t.args, I64 x
/-- a thread with the value of its arguments: its cells -/
def thrCells (z : Thr × Value) : List Value := .int .i64 z.1.state :: (z.1.regs.map iv ++ [.int .i64 z.1.pc, .int .i64 z.1.func, z.2])
def outCells (z : Int × Int) : List Value := [.int .i64 z.1, .int .i64 z.2]
theorem thr_len {z : Thr × Value} (h : z.1.regs.length = 16) : (thrCells z).length = 20 := by simp [thrCells, h]
theorem thr_0 (z : Thr × Value) : (thrCells z)[0]? = some (.int .i64 z.1.state) := rfl
theorem thr_r {z : Thr × Value} {i : Nat} (hi : i < z.1.regs.length) : (thrCells z)[i + 1]? = some (.int .i64 z.1.regs[i]) := by
  simp only [thrCells, List.getElem?_cons_succ]
  rw [List.getElem?_append_left (by simpa using hi)]
  simp [iv, hi]
theorem thr_17 {z : Thr × Value} (h : z.1.regs.length = 16) : (thrCells z)[17]? = some (.int .i64 z.1.pc) := by
  simp only [thrCells, List.getElem?_cons_succ]
  rw [List.getElem?_append_right (by simp [h])]
  simp [h]
theorem thr_18 {z : Thr × Value} (h : z.1.regs.length = 16) : (thrCells z)[18]? = some (.int .i64 z.1.func) := by
  simp only [thrCells, List.getElem?_cons_succ]
  rw [List.getElem?_append_right (by simp [h])]
  simp [h]
theorem thr_19 {z : Thr × Value} (h : z.1.regs.length = 16) : (thrCells z)[19]? = some z.2 := by
  simp only [thrCells, List.getElem?_cons_succ]
  rw [List.getElem?_append_right (by simp [h])]
  simp [h]
/-- threads in memory -/
structure ThrIn (w : World) (z : Thr × Value) : Prop where
  regs : z.1.regs.length = 16
  args : InI w z.2 z.1.args
theorem ThrIn.ext {w w' : World} {z : Thr × Value} (h : ThrIn w z) (he : Ext w w') : ThrIn w' z := ⟨h.regs, h.args.ext he⟩
theorem ThrIn.both {w : World} {t : Thr} {y : Value} (h : ThrIn w (t, y)) : t.regs.length = 16 ∧ InI w y t.args := ⟨h.regs, h.args⟩
theorem ThrIn.one {w : World} {z : Thr × Value} (h : ThrIn w z) : ∀ u ∈ thrCells z, u.oneCell' = true := by
  intro u hu
  simp only [thrCells, List.mem_cons, List.mem_append, List.mem_map, List.not_mem_nil, or_false] at hu
  obtain ⟨A, c, hA, _⟩ := h.args
  rcases hu with rfl | ⟨x, _, rfl⟩ | rfl | rfl | rfl
  · rfl
  · rfl
  · rfl
  · rfl
  · rw [hA]; rfl
def ThrsAt (w : World) (v : Value) (ts : List Thr) : Prop := ∃ zs : List (Thr × Value), zs.map Prod.fst = ts ∧ InR thrCells w v zs ∧ ∀ z ∈ zs, ThrIn w z
theorem ThrsAt.ext {w w' : World} {v : Value} {ts : List Thr} (h : ThrsAt w v ts) (he : Ext w w') : ThrsAt w' v ts := by
  obtain ⟨zs, h1, h2, h3⟩ := h
  exact ⟨zs, h1, h2.ext he, fun z hz => (h3 z hz).ext he⟩
theorem ThrsAt.nil (w : World) : ThrsAt w (.slice none 0 0) [] := ⟨[], rfl, InR.nil w, by simp⟩
theorem ThrsAt.form {w : World} {v : Value} {ts : List Thr} (h : ThrsAt w v ts) : ∃ A c, v = .slice A ts.length c := by
  obtain ⟨zs, rfl, ⟨A, c, rfl, _⟩, _⟩ := h
  exact ⟨A, c, by simp⟩
theorem ThrsAt.at_ {w : World} {A : Option Addr} {n c : Nat} {ts : List Thr} (h : ThrsAt w (.slice A n c) ts) {j : Nat} (hj : j < ts.length) :
    ∃ b off y, A = some ⟨b, off, none⟩ ∧ w.rangeAt b (off + j * 20) (thrCells (ts[j], y)) ∧ ThrIn w (ts[j], y) := by
  obtain ⟨zs, rfl, h2, h3⟩ := h
  have hj' : j < zs.length := by simpa using hj
  obtain ⟨b, off, rfl, hr⟩ := h2.at_ (k := 20) (fun z hz => thr_len (h3 z hz).regs) (by omega) hj'
  refine ⟨b, off, zs[j].2, rfl, ?_, ?_⟩
  · simpa using hr
  · have := h3 zs[j] (List.getElem_mem hj')
    simpa using this
def OutAt (w : World) (v : Value) (l : List (Int × Int)) : Prop := InR outCells w v l
theorem OutAt.ext {w w' : World} {v : Value} {l : List (Int × Int)} (h : OutAt w v l) (he : Ext w w') : OutAt w' v l := InR.ext h he
theorem OutAt.form {w : World} {v : Value} {l : List (Int × Int)} (h : OutAt w v l) : ∃ A c, v = .slice A l.length c := by
  obtain ⟨A, c, rfl, _⟩ := h
  exact ⟨A, c, rfl⟩
theorem OutAt.at_ {w : World} {A : Option Addr} {n c : Nat} {l : List (Int × Int)} (h : OutAt w (.slice A n c) l) {j : Nat} (hj : j < l.length) :
    ∃ b off, A = some ⟨b, off, none⟩ ∧ w.cell? ⟨b, off + j * 2, none⟩ = some (.int .i64 l[j].1) ∧ w.cell? ⟨b, off + j * 2 + 1, none⟩ = some (.int .i64 l[j].2) := by
  obtain ⟨b, off, rfl, hr⟩ := InR.at_ (k := 2) h (fun _ _ => rfl) (by omega) hj
  exact ⟨b, off, rfl, hr 0 _ rfl, hr 1 _ rfl⟩
/-- a reply -/
structure Rep where
  err : Int
  words : List Int
  threads : List Thr
  output : List (Int × Int)
  s0 : Int
  s1 : Int
  s2 : Int
  s3 : Int
  s4 : Int
  s5 : Int
  s6 : Int
def Rep.stop (r : Rep) : List Int := [r.s0, r.s1, r.s2, r.s3, r.s4, r.s5, r.s6]
def outL (l : List (Int × Int)) : List Int := l.flatMap fun p => [p.1, p.2]
structure Rep.Ok (r : Rep) : Prop where
  err : I64 r.err
  words : ∀ x ∈ r.words, I64 x
  threads : ∀ t ∈ r.threads, t.Ok
  output : ∀ x ∈ outL r.output, I64 x
  stop : ∀ x ∈ r.stop, I64 x
structure Rep.Fits (r : Rep) : Prop where
  words : r.words.length ≤ 128
  output : r.output.length ≤ 128
  threads : r.threads.length ≤ 8
  args : ∀ t ∈ r.threads, t.args.length ≤ 4
structure RepIn (w : World) (yw yt yo : Value) (r : Rep) : Prop where
  words : InI w yw r.words
  threads : ThrsAt w yt r.threads
  output : OutAt w yo r.output
theorem RepIn.ext {w w' : World} {yw yt yo : Value} {r : Rep} (h : RepIn w yw yt yo r) (he : Ext w w') : RepIn w' yw yt yo r := ⟨h.words.ext he, h.threads.ext he, h.output.ext he⟩
def RepAt (w : World) (v : Value) (r : Rep) : Prop := ∃ yw yt yo, v = .agg #[.int .i64 r.err, yw, yt, yo, .int .i64 r.s0, .int .i64 r.s1, .int .i64 r.s2, .int .i64 r.s3, .int .i64 r.s4, .int .i64 r.s5, .int .i64 r.s6] ∧ RepIn w yw yt yo r
theorem RepAt.ext {w w' : World} {v : Value} {r : Rep} (h : RepAt w v r) (he : Ext w w') : RepAt w' v r := by
  obtain ⟨a, b, c, rfl, hy⟩ := h
  exact ⟨a, b, c, rfl, hy.ext he⟩
def thrB (t : Thr) : List UInt8 := listB t.nums ++ listB t.args
def thrsB (l : List Thr) : List UInt8 := l.flatMap thrB
def encR (r : Rep) : List UInt8 := leb (zig r.err) ++ (listB r.words ++ (uintB r.threads.length ++ (thrsB r.threads ++ (listB (outL r.output) ++ listB r.stop))))
theorem blk11 {w : World} {g : Nat} {a0 a1 a2 a3 a4 a5 a6 a7 a8 a9 a10 : Value} {t : TypeId} (H : w.heap[g]? = some (.cells #[a0, a1, a2, a3, a4, a5, a6, a7, a8, a9, a10] t (0, 0))) :
    w.cell? ⟨g, 0, none⟩ = some a0 ∧ w.cell? ⟨g, 1, none⟩ = some a1 ∧ w.cell? ⟨g, 2, none⟩ = some a2 ∧ w.cell? ⟨g, 3, none⟩ = some a3 ∧ w.cell? ⟨g, 4, none⟩ = some a4 ∧ w.cell? ⟨g, 5, none⟩ = some a5 ∧
    w.cell? ⟨g, 6, none⟩ = some a6 ∧ w.cell? ⟨g, 7, none⟩ = some a7 ∧ w.cell? ⟨g, 8, none⟩ = some a8 ∧ w.cell? ⟨g, 9, none⟩ = some a9 ∧ w.cell? ⟨g, 10, none⟩ = some a10 :=
  ⟨blk_at H 0 _ rfl, blk_at H 1 _ rfl, blk_at H 2 _ rfl, blk_at H 3 _ rfl, blk_at H 4 _ rfl, blk_at H 5 _ rfl, blk_at H 6 _ rfl, blk_at H 7 _ rfl, blk_at H 8 _ rfl, blk_at H 9 _ rfl, blk_at H 10 _ rfl⟩
theorem outL_cons (p : Int × Int) (l : List (Int × Int)) : outL (p :: l) = p.1 :: p.2 :: outL l := rfl
theorem outL_len (l : List (Int × Int)) : (outL l).length = 2 * l.length := by
  induction l with
  | nil => rfl
  | cons p l ih => rw [outL_cons]; simp [ih]; omega
theorem outL_take (l : List (Int × Int)) (j : Nat) (h : j < l.length) : outL (l.take (j + 1)) = outL (l.take j) ++ [l[j].1, l[j].2] := by
  rw [List.take_succ_eq_append_getElem h, outL, List.flatMap_append]; rfl
theorem thrsB_take (l : List Thr) (j : Nat) (h : j < l.length) : thrsB (l.take (j + 1)) = thrsB (l.take j) ++ (listB l[j].nums ++ listB l[j].args) := by
  rw [List.take_succ_eq_append_getElem h, thrsB, List.flatMap_append, List.flatMap_cons, List.flatMap_nil, List.append_nil]; rfl
end Go.Proofs.Ytoeibcpjmoekpaa
