/- The walk that reads a location list. -/
import Derived.Test.YtokmbdeafjmcjaaLcJ
namespace Go.Proofs.Ytokmbdeafjmcjaa
open Go.RowKit
set_option linter.unusedVariables false
set_option linter.unusedSimpArgs false

def ListPost (gr : Nat) (x : Value) (r : Except Int (PTab × Int)) (w : World) (en : Ending) (w' : World) : Prop :=
  match r with
  | .error e => (∃ (lo hi : Int) (A2 : Option Addr) (n2 c2 : Nat), en = .returned (.tuple #[.agg #[.int .i64 lo, .int .i64 hi, .slice A2 n2 c2], .int .i64 e])) ∧ e ≠ 0 ∧ Kept w.heap.size [gr] w w'
  | .ok (t, q) => ∃ y, en = .returned (.tuple #[.agg #[.int .i64 t.lo, .int .i64 t.hi, y], .int .i64 0]) ∧ RngsOwn w.heap.size w' y t.ranges ∧ w'.heap[gr]? = some (.cells #[x, .int .i64 q] 147 (0, 0)) ∧ Kept w.heap.size [gr] w w'
theorem Kept.drop2 {w W W' : World} {gr g : Nat} (h : Kept w.heap.size [gr] w W) (hk : Kept W.heap.size [gr, g] W W') (hl : w.heap.size ≤ g) : Kept w.heap.size [gr] w W' :=
  ⟨hk.os.trans h.os, hk.tape.trans h.tape, hk.output.trans h.output, Nat.le_trans h.size hk.size, fun i hi hn => (hk.block i (Nat.lt_of_lt_of_le hi h.size) (fun hm => by
    simp only [List.mem_cons, List.not_mem_nil, or_false] at hm
    rcases hm with e | e
    · exact hn (by simp [e])
    · omega)).trans (h.block i hi hn)⟩
theorem Kept.drop1 {w W W' : World} {gr : Nat} (h : Kept w.heap.size [gr] w W) (hk : Kept W.heap.size [gr] W W') : Kept w.heap.size [gr] w W' := h.trans (hk.low' h.size)
/-- the boxes of the walk -/
structure TL (w : World) (gr g2 g4 : Nat) (lo hi : Int) (y : Value) (W : World) : Prop where
  res : W.heap[g2]? = some (.cells #[.int .i64 0, .int .i64 0, .slice none 0 0] 66 (0, 0))
  tab : W.heap[g4]? = some (.cells #[.int .i64 lo, .int .i64 hi, y] 66 (0, 0))
  kept : Kept w.heap.size [gr] w W
  low : w.heap.size ≤ g2 ∧ w.heap.size ≤ g4 ∧ g2 ≠ g4 ∧ gr < w.heap.size
section
variable {w W W' : World} {gr g2 g4 : Nat} {lo hi lo' hi' : Int} {y : Value}
theorem TL.next (h : TL w gr g2 g4 lo hi y W) (hk : Kept W.heap.size [gr] W W') : TL w gr g2 g4 lo hi y W' := by
  have hlow := h.low
  exact ⟨hk.heap h.res (heap_lt h.res) (fun hm => by simp only [List.mem_cons, List.not_mem_nil, or_false] at hm; omega), hk.heap h.tab (heap_lt h.tab) (fun hm => by simp only [List.mem_cons, List.not_mem_nil, or_false] at hm; omega), h.kept.drop1 hk, h.low⟩
theorem TL.ext (h : TL w gr g2 g4 lo hi y W) (he : Ext W W') : TL w gr g2 g4 lo hi y W' := h.next (Kept.of_ext he (Nat.le_refl _))
theorem TL.nums (h : TL w gr g2 g4 lo hi y W) (hk : Kept W.heap.size [gr, g4] W W') (hg : W'.heap[g4]? = some (.cells #[.int .i64 lo', .int .i64 hi', y] 66 (0, 0))) : TL w gr g2 g4 lo' hi' y W' := by
  have hlow := h.low
  exact ⟨hk.heap h.res (heap_lt h.res) (fun hm => by simp only [List.mem_cons, List.not_mem_nil, or_false] at hm; omega), hg, h.kept.drop2 hk hlow.2.1, h.low⟩
theorem TL.grown (h : TL w gr g2 g4 lo hi y W) {row : Option Nat} (hg : W.grownBy W' row) (h2 : some g2 ≠ row) (h4 : some g4 ≠ row) (hl : ∀ k, row = some k → w.heap.size ≤ k ∨ k = gr) : TL w gr g2 g4 lo hi y W' :=
  ⟨blk_grown h.res hg h2, blk_grown h.tab hg h4, h.kept.trans (Kept.of_grown hg h.kept.size (fun k e => (hl k e).imp id (fun e2 => by simp [e2]))), h.low⟩
theorem TL.reader (h : TL w gr g2 g4 lo hi y W) (hg : W.grownBy W' (some gr)) : TL w gr g2 g4 lo hi y W' := by
  have hlow := h.low
  exact h.grown hg (fun e => by cases e; omega) (fun e => by cases e; omega) (fun k e => by cases e; exact .inr rfl)
theorem TL.put2 (h : TL w gr g2 g4 lo hi y W) (v : Value) : TL w gr g2 g4 lo hi v (W.setCell ⟨g4, 2, none⟩ v) :=
  ⟨blk_grown h.res (gset W ⟨g4, 2, none⟩ v) (fun e => h.low.2.2.1 (by cases e; rfl)), blk_set h.tab 2 v, h.kept.trans (Kept.of_grown (gset W ⟨g4, 2, none⟩ v) h.kept.size (fun k e => by cases e; exact .inl h.low.2.1)), h.low⟩
end
/-- the box of a range, made since the world w -/
structure RL (w : World) (gr g9 : Nat) (c0 c1 c2 c3 c4 : Int) (z : Value) (W : World) : Prop where
  box : W.heap[g9]? = some (.cells #[.int .i64 c0, .int .i64 c1, .int .i64 c2, .int .i64 c3, .int .i64 c4, z] 69 (0, 0))
  kept : Kept w.heap.size [gr] w W
  low : w.heap.size ≤ g9 ∧ gr < w.heap.size
section
variable {w W W' : World} {gr g9 : Nat} {c0 c1 c2 c3 c4 d0 d1 d2 d3 d4 : Int} {z : Value}
theorem RL.next (h : RL w gr g9 c0 c1 c2 c3 c4 z W) (hk : Kept W.heap.size [gr] W W') : RL w gr g9 c0 c1 c2 c3 c4 z W' := by
  have hlow := h.low
  exact ⟨hk.heap h.box (heap_lt h.box) (fun hm => by simp only [List.mem_cons, List.not_mem_nil, or_false] at hm; omega), h.kept.drop1 hk, h.low⟩
theorem RL.ext (h : RL w gr g9 c0 c1 c2 c3 c4 z W) (he : Ext W W') : RL w gr g9 c0 c1 c2 c3 c4 z W' := h.next (Kept.of_ext he (Nat.le_refl _))
theorem RL.nums (h : RL w gr g9 c0 c1 c2 c3 c4 z W) (hk : Kept W.heap.size [gr, g9] W W') (hg : W'.heap[g9]? = some (.cells #[.int .i64 d0, .int .i64 d1, .int .i64 d2, .int .i64 d3, .int .i64 d4, z] 69 (0, 0))) : RL w gr g9 d0 d1 d2 d3 d4 z W' :=
  ⟨hg, h.kept.drop2 hk h.low.1, h.low⟩
theorem RL.grown (h : RL w gr g9 c0 c1 c2 c3 c4 z W) {row : Option Nat} (hg : W.grownBy W' row) (h2 : some g9 ≠ row) (hl : ∀ k, row = some k → w.heap.size ≤ k ∨ k = gr) : RL w gr g9 c0 c1 c2 c3 c4 z W' :=
  ⟨blk_grown h.box hg h2, h.kept.trans (Kept.of_grown hg h.kept.size (fun k e => (hl k e).imp id (fun e2 => by simp [e2]))), h.low⟩
theorem RL.reader (h : RL w gr g9 c0 c1 c2 c3 c4 z W) (hg : W.grownBy W' (some gr)) : RL w gr g9 c0 c1 c2 c3 c4 z W' := by
  have hlow := h.low
  exact h.grown hg (fun e => by cases e; omega) (fun k e => by cases e; exact .inr rfl)
theorem RL.set (h : RL w gr g9 c0 c1 c2 c3 c4 z W) (j : Nat) (v : Value) : Kept w.heap.size [gr] w (W.setCell ⟨g9, j, none⟩ v) :=
  h.kept.trans (Kept.of_grown (gset W ⟨g9, j, none⟩ v) h.kept.size (fun k e => by cases e; exact .inl h.low.1))
theorem RL.put3 (h : RL w gr g9 c0 c1 c2 c3 c4 z W) (v : Int) : RL w gr g9 c0 c1 c2 v c4 z (W.setCell ⟨g9, 3, none⟩ (.int .i64 v)) := ⟨blk_set h.box 3 _, h.set 3 _, h.low⟩
theorem RL.put4 (h : RL w gr g9 c0 c1 c2 c3 c4 z W) (v : Int) : RL w gr g9 c0 c1 c2 c3 v z (W.setCell ⟨g9, 4, none⟩ (.int .i64 v)) := ⟨blk_set h.box 4 _, h.set 4 _, h.low⟩
theorem RL.put5 (h : RL w gr g9 c0 c1 c2 c3 c4 z W) (v : Value) : RL w gr g9 c0 c1 c2 c3 c4 v (W.setCell ⟨g9, 5, none⟩ v) := ⟨blk_set h.box 5 _, h.set 5 _, h.low⟩
end
theorem Kept.own1 {α : Type} {f : α → List Value} {k : Nat} {e : TypeId} {b0 gr : Nat} {w W : World} {v : Value} {l : List α} {C : Array Value} {t : TypeId} {fr : Nat × Nat} (h : Kept w.heap.size [gr] w W) (ho : OwnR f k e b0 w v l) (hr : w.heap[gr]? = some (.cells C t fr)) (hne : e ≠ t) : OwnR f k e b0 W v l :=
  h.ownR ho (fun i hi => ⟨ho.lt i hi, fun hm => by
    simp only [List.mem_cons, List.not_mem_nil, or_false] at hm
    subst hm
    exact ho.ne_blk hr hne hi⟩)
theorem Kept.rngs {b0 gr : Nat} {w W : World} {v : Value} {l : List Rng} {C : Array Value} {fr : Nat × Nat} (h : Kept w.heap.size [gr] w W) (ho : RngsOwn b0 w v l) (hr : w.heap[gr]? = some (.cells C 147 fr)) : RngsOwn b0 W v l := by
  obtain ⟨zs, h1, h2, h3⟩ := ho
  exact ⟨zs, h1, h.own1 h2 hr (by decide), fun z hz => h.own1 (h3 z hz) hr (by decide)⟩
theorem RngsOwn.put {base : Nat} {w w' : World} {v : Value} {l : List Rng} (h : RngsOwn base w v l) {g : Nat} {cs : Array Value} {fr : Nat × Nat} (hb : w.heap[g]? = some (.cells cs 66 fr)) (hg : w.grownBy w' (some g)) : RngsOwn base w' v l := by
  obtain ⟨zs, h1, h2, h3⟩ := h
  exact ⟨zs, h1, h2.kept hg (.inr (h2.ne_blk hb (by decide))), fun z hz => (h3 z hz).kept hg (.inr ((h3 z hz).ne_blk hb (by decide)))⟩
theorem shape2' {vs : List Int} (h : vs.length ≤ 2) (y : Value) : ∃ lo hi : Int, (putN [.int .i64 0, .int .i64 0, y] [0, 1] vs).toArray = #[.int .i64 lo, .int .i64 hi, y] := by
  match vs, h with
  | [], _ => exact ⟨0, 0, rfl⟩
  | [a], _ => exact ⟨a, 0, rfl⟩
  | [a, c], _ => exact ⟨a, c, rfl⟩
set_option maxHeartbeats 40000000 in
set_option maxRecDepth 100000 in
theorem list_any (gr : Nat) (x : Value) (b : List UInt8) (p : Int) (w : World) (hx : St [gr] w (fun W => InB W x b)) (hb : w.heap[gr]? = some (.cells #[x, .int .i64 p] 147 (0, 0))) (hl : b.length ≤ 1000000) :
    Calls Try.prog 90 #[.pointer (some ⟨gr, 0, none⟩)] w (ListPost gr x (listR' b p) w) := by
  have HX := Lib.hid hx
  have HB := Lib.hid hb
  have hgr := heap_lt hb
  clear hx hb
  go_enter Try.func90, Try.ntmps90
  go_upto_region 2 with fail
  obtain ⟨W, hW, hE, hG2, hG4⟩ : ∃ W, W = (w.alloc (.cells #[.int .i64 0, .int .i64 0, .slice none 0 0] 66)).alloc (.cells #[.int .i64 0, .int .i64 0, .slice none 0 0] 66) ∧ Ext w W ∧ W.heap[w.heap.size]? = some (.cells #[.int .i64 0, .int .i64 0, .slice none 0 0] 66 (0, 0)) ∧ W.heap[w.heap.size + 1]? = some (.cells #[.int .i64 0, .int .i64 0, .slice none 0 0] 66 (0, 0)) := ⟨_, rfl, ((Ext.refl w).alloc _).alloc _, ((Ext.refl _).alloc _).heap (heap_alloc_new w _), by have := heap_alloc_new (w.alloc (.cells #[.int .i64 0, .int .i64 0, .slice none 0 0] 66)) (.cells #[.int .i64 0, .int .i64 0, .slice none 0 0] 66); simpa using this⟩
  rw [← hW]
  clear hW
  obtain ⟨g2, hg2⟩ : ∃ g, g = w.heap.size := ⟨_, rfl⟩
  obtain ⟨g4, hg4⟩ : ∃ g, g = w.heap.size + 1 := ⟨_, rfl⟩
  have hlow : w.heap.size ≤ g2 ∧ w.heap.size ≤ g4 ∧ g2 ≠ g4 ∧ gr < w.heap.size := by omega
  rw [← hg4] at hG4 ⊢
  rw [← hg2] at hG2 ⊢
  clear hg2 hg4
  have hT0 : TL w gr g2 g4 0 0 (.slice none 0 0) W := ⟨hG2, hG4, Kept.of_ext hE (Nat.le_refl _), hlow⟩
  have hrd0 := hE.heap HB.out
  have HL := Lib.hid hlow
  have hgl : gr ≠ g4 := by omega
  clear hG2 hG4 hE hlow
  have hA := (Ext.refl W).alloc (.cells #[.pointer (some ⟨g4, 0, none⟩), .pointer (some ⟨g4, 1, none⟩)] 165)
  have hBN := heap_alloc_new W (.cells #[.pointer (some ⟨g4, 0, none⟩), .pointer (some ⟨g4, 1, none⟩)] 165)
  go_wp2_with fail
  have hTA := hT0.ext hA
  have hnum := lcNumbers_any gr g4 W.heap.size 2 [0, 1] rfl x b p 66 [.int .i64 0, .int .i64 0, .slice none 0 0] (W.alloc (.cells #[.pointer (some ⟨g4, 0, none⟩), .pointer (some ⟨g4, 1, none⟩)] 165)) (HX.out.mono hTA.kept (fun i hi => by have := HL.out; simp only [List.mem_cons, List.not_mem_nil, or_false] at hi ⊢; omega)) (hA.heap hrd0) hTA.tab (by decide) (by decide) (by simp) (by omega) hBN hl
  clear hBN hA hT0 hrd0
  rcases htr : numsR b 2 p with e | ⟨vs, p1⟩
  · rw [htr] at hnum
    refine hnum.mono ?_
    rintro en w2 ⟨rfl, he0, ⟨vs, hvl, hg⟩, hk⟩
    obtain ⟨lo, hi, hsh⟩ := shape2' hvl (.slice none 0 0)
    rw [hsh] at hg
    have hT2 := hTA.nums hk hg
    have HPF : Hid (listR' b p = .error e) := Lib.hid (by unfold listR'; rw [htr])
    have e0 : (e != 0) = true := by simpa using he0
    have HE0 := Lib.hid he0
    clear htr hnum he0 hvl hg hk hTA hsh
    have hldt := run_loadAt_blk (P := Try.prog) w2 g4 66 66 _ (0, 0) _ hT2.tab Try.underlying66 rfl pl_size
    have hstt := run_storeAt_blk (P := Try.prog) w2 g2 66 66 _ #[.int .i64 lo, .int .i64 hi, .slice none 0 0] hT2.res pl_size rfl (by simp [Value.oneCell'])
    go_wp2_with first | refine wpList_load_run rfl 66 (.tmp 4) rfl _ _ rfl hldt ?_ | refine wpList_store_run rfl 66 (.tmp 2) (.tmp 22) rfl _ _ _ rfl rfl hstt ?_
    have hZ9 := setRow_heap w2 g2 _ #[.int .i64 lo, .int .i64 hi, .slice none 0 0] _ _ hT2.res
    have hk9 := hT2.kept.trans (Kept.of_grown (gsetRow w2 g2 #[.int .i64 lo, .int .i64 hi, .slice none 0 0]) hT2.kept.size (fun k e => by cases e; exact .inl hT2.low.1))
    clear hldt hstt
    generalize w2.setRow g2 #[.int .i64 lo, .int .i64 hi, .slice none 0 0] = w9 at *
    obtain ⟨k0, k1, k2⟩ := blk3 hZ9
    refine bodyPost_ret (v := .tuple #[.agg #[.int .i64 lo, .int .i64 hi, .slice none 0 0], .int .i64 e]) (by simp [results, Try.results90, go_sem, k0, k1, k2]) rfl ?_
    rw [HPF.out]
    exact ⟨⟨_, _, _, _, _, rfl⟩, HE0.out, hk9⟩
  rw [htr] at hnum
  obtain ⟨hvl, hvr⟩ := numsR_ok htr
  obtain ⟨lo, hi, rfl⟩ := list2 hvl
  refine hnum.mono ?_
  rintro en w2 ⟨rfl, hg, hrd, hk⟩
  have hT2 := hTA.nums hk (lo' := lo) (hi' := hi) hg
  have hlor := hvr lo (by simp)
  have HTR := Lib.hid htr
  clear htr hnum hg hk hTA hvl hvr
  go_wp2_with fail
  have hcnt := lcCount_any gr x b p1 8000 w2 (HX.out w2 hT2.kept) hrd hl
  rcases hct : cntR 8000 b p1 with e | ⟨cn, p2⟩
  · rw [hct] at hcnt
    refine hcnt.mono ?_
    rintro en w3 ⟨⟨v3, rfl⟩, he0, hg3⟩
    have hT3 := hT2.reader hg3
    have HPF : Hid (listR' b p = .error e) := Lib.hid (by unfold listR'; rw [HTR.out]; simp only [hct])
    have e0 : (e != 0) = true := by simpa using he0
    have HE0 := Lib.hid he0
    clear hct hcnt he0 hg3 hT2 hrd
    have hldt := run_loadAt_blk (P := Try.prog) w3 g4 66 66 _ (0, 0) _ hT3.tab Try.underlying66 rfl pl_size
    have hstt := run_storeAt_blk (P := Try.prog) w3 g2 66 66 _ #[.int .i64 lo, .int .i64 hi, .slice none 0 0] hT3.res pl_size rfl (by simp [Value.oneCell'])
    go_wp2_with first | refine wpList_load_run rfl 66 (.tmp 4) rfl _ _ rfl hldt ?_ | refine wpList_store_run rfl 66 (.tmp 2) (.tmp 31) rfl _ _ _ rfl rfl hstt ?_
    have hZ9 := setRow_heap w3 g2 _ #[.int .i64 lo, .int .i64 hi, .slice none 0 0] _ _ hT3.res
    have hk9 := hT3.kept.trans (Kept.of_grown (gsetRow w3 g2 #[.int .i64 lo, .int .i64 hi, .slice none 0 0]) hT3.kept.size (fun k e => by cases e; exact .inl hT3.low.1))
    clear hldt hstt
    generalize w3.setRow g2 #[.int .i64 lo, .int .i64 hi, .slice none 0 0] = w9 at *
    obtain ⟨k0, k1, k2⟩ := blk3 hZ9
    refine bodyPost_ret (v := .tuple #[.agg #[.int .i64 lo, .int .i64 hi, .slice none 0 0], .int .i64 e]) (by simp [results, Try.results90, go_sem, k0, k1, k2]) rfl ?_
    rw [HPF.out]
    exact ⟨⟨_, _, _, _, _, rfl⟩, HE0.out, hk9⟩
  rw [hct] at hcnt
  obtain ⟨hcn0, hcn1, hcn2⟩ := cntR_ok hct
  have hp2 := cntR_pos hct
  obtain ⟨n, rfl⟩ : ∃ n : Nat, cn = (n : Int) := ⟨cn.toNat, by omega⟩
  have HCT := Lib.hid hct
  refine hcnt.mono ?_
  rintro en w3 ⟨rfl, hrd3, hg3⟩
  have hT3 := hT2.reader hg3
  clear hct hcnt hg3 hT2 hrd hcn0
  obtain ⟨r0, r1, r2⟩ := blk3 hT3.tab
  go_wp2_with fail
  clear r0 r1 r2
  go_loopw [8, 36] (fun li i wr => ∃ (k : Nat) (rs : List Rng) (last q : Int) (y : Value), k ≤ n ∧ i = .int .i64 (k : Int) ∧ li = .int .i64 last ∧ (0 ≤ last ∧ last ≤ 1099511627776 * (k + 1)) ∧ Hid (rs.length = k) ∧ Hid (rngsR b n lo p2 = preR rs (rngsR b (n - k) last q)) ∧ TL w gr g2 g4 lo hi y wr ∧ RngsOwn w.heap.size wr y rs ∧ wr.heap[gr]? = some (.cells #[x, .int .i64 q] 147 (0, 0))) (fun _ i _ => n - (intOf i).toNat)
  case atStart => exact ⟨0, [], lo, p2, _, by omega, rfl, rfl, by omega, Lib.hid rfl, Lib.hid (by rw [preR_nil, Nat.sub_zero]), hT3, RngsOwn.nil _ _, hrd3⟩
  case round =>
    clear hT3 hrd3
    obtain ⟨k, rs, last, q, y, hk, rfl, rfl, hla, HK, HS, hT, hown, hrd⟩ := hrel
    obtain ⟨wz, rfl⟩ : ∃ wz : World, wz = wr := ⟨_, rfl⟩
    obtain ⟨AY, cY, hyv⟩ := hown.in_.form
    rw [HK.out] at hyv
    subst hyv
    by_cases hlt : k < n
    · have hik : (k : Int) < (n : Int) := by omega
      have HSN : Hid (n - k = (n - (k + 1)) + 1) := Lib.hid (by omega)
      have hx1 : St [gr] wz (fun W => InB W x b) := HX.out.mono hT.kept (fun i hi => by simp only [List.mem_cons, List.not_mem_nil, or_false] at hi ⊢; omega)
      have HX1 := Lib.hid hx1
      have hgz : gr < wz.heap.size := heap_lt hrd
      clear hx1
      go_upto_region 12 with fail
      have hXa := (Ext.refl wz).alloc (.cells #[.int .i64 0, .int .i64 0, .int .i64 0, .int .i64 0, .int .i64 0, .slice none 0 0] 69)
      have hG9 := heap_alloc_new wz (.cells #[.int .i64 0, .int .i64 0, .int .i64 0, .int .i64 0, .int .i64 0, .slice none 0 0] 69)
      obtain ⟨g9, hg9⟩ : ∃ g, g = wz.heap.size := ⟨_, rfl⟩
      have hl9 : wz.heap.size ≤ g9 := by omega
      rw [← hg9] at hG9 ⊢
      have hRa : RL wz gr g9 0 0 0 0 0 (.slice none 0 0) (wz.alloc (.cells #[.int .i64 0, .int .i64 0, .int .i64 0, .int .i64 0, .int .i64 0, .slice none 0 0] 69)) := ⟨hG9, Kept.of_ext hXa (Nat.le_refl _), hl9, hgz⟩
      have hra := hXa.heap hrd
      clear hXa hg9 hG9
      generalize wz.alloc (.cells #[.int .i64 0, .int .i64 0, .int .i64 0, .int .i64 0, .int .i64 0, .slice none 0 0] 69) = wa at *
      have hA := (Ext.refl wa).alloc (.cells #[.pointer (some ⟨g9, 3, none⟩), .pointer (some ⟨g9, 4, none⟩), .pointer (some ⟨g9, 0, none⟩), .pointer (some ⟨g9, 1, none⟩), .pointer (some ⟨g9, 2, none⟩)] 165)
      have hBN := heap_alloc_new wa (.cells #[.pointer (some ⟨g9, 3, none⟩), .pointer (some ⟨g9, 4, none⟩), .pointer (some ⟨g9, 0, none⟩), .pointer (some ⟨g9, 1, none⟩), .pointer (some ⟨g9, 2, none⟩)] 165)
      go_wp2_with fail
      have hRA := hRa.ext hA
      have hrA := hA.heap hra
      have hnum := lcNumbers_any gr g9 wa.heap.size 5 [3, 4, 0, 1, 2] rfl x b q 69 [.int .i64 0, .int .i64 0, .int .i64 0, .int .i64 0, .int .i64 0, .slice none 0 0] (wa.alloc (.cells #[.pointer (some ⟨g9, 3, none⟩), .pointer (some ⟨g9, 4, none⟩), .pointer (some ⟨g9, 0, none⟩), .pointer (some ⟨g9, 1, none⟩), .pointer (some ⟨g9, 2, none⟩)] 165)) (HX1.out.mono hRA.kept (fun i hi => by simp only [List.mem_cons, List.not_mem_nil, or_false] at hi ⊢; omega)) hrA hRA.box (by decide) (by decide) (by simp) (by omega) hBN hl
      clear hBN hA hRa hra
      rcases htr : numsR b 5 q with e | ⟨vs, q2⟩
      · rw [htr] at hnum
        refine hnum.mono ?_
        rintro en w2 ⟨rfl, he0, _, hk2⟩
        have hT2 := hT.next (hRA.kept.drop2 hk2 hl9)
        have HPF : Hid (listR' b p = .error e) := Lib.hid (by
          unfold listR'
          rw [HTR.out]
          simp only [HCT.out, Int.toNat_natCast, HS.out, HSN.out]
          unfold rngsR rngR
          simp only [htr]
          rfl)
        have e0 : (e != 0) = true := by simpa using he0
        have HE0 := Lib.hid he0
        clear htr hnum he0 hk2 hRA hrA hT hown hrd
        have hldt := run_loadAt_blk (P := Try.prog) w2 g4 66 66 _ (0, 0) _ hT2.tab Try.underlying66 rfl pl_size
        have hstt := run_storeAt_blk (P := Try.prog) w2 g2 66 66 _ #[.int .i64 lo, .int .i64 hi, .slice AY k cY] hT2.res pl_size rfl (by simp [Value.oneCell'])
        go_wp2_with first | refine wpList_load_run rfl 66 (.tmp 4) rfl _ _ rfl hldt ?_ | refine wpList_store_run rfl 66 (.tmp 2) (.tmp 48) rfl _ _ _ rfl rfl hstt ?_
        have hZ9 := setRow_heap w2 g2 _ #[.int .i64 lo, .int .i64 hi, .slice AY k cY] _ _ hT2.res
        have hk9 := hT2.kept.trans (Kept.of_grown (gsetRow w2 g2 #[.int .i64 lo, .int .i64 hi, .slice AY k cY]) hT2.kept.size (fun k e => by cases e; exact .inl hT2.low.1))
        clear hldt hstt
        generalize w2.setRow g2 #[.int .i64 lo, .int .i64 hi, .slice AY k cY] = w9 at *
        obtain ⟨k0, k1, k2⟩ := blk3 hZ9
        refine bodyPost_ret (v := .tuple #[.agg #[.int .i64 lo, .int .i64 hi, .slice AY k cY], .int .i64 e]) (by simp [results, Try.results90, go_sem, k0, k1, k2]) rfl ?_
        rw [HPF.out]
        exact ⟨⟨_, _, _, _, _, rfl⟩, HE0.out, hk9⟩
      rw [htr] at hnum
      obtain ⟨hvl, hvr⟩ := numsR_ok htr
      obtain ⟨a, h, c0, c1, c2, rfl⟩ := list5 hvl
      refine hnum.mono ?_
      rintro en w2 ⟨rfl, hg9', hrd2, hk2⟩
      have hR2 : RL wz gr g9 c0 c1 c2 a h (.slice none 0 0) w2 := hRA.nums hk2 hg9'
      have har := hvr a (by simp)
      have hhr := hvr h (by simp)
      obtain ⟨la2, hla2, hla2e⟩ : ∃ l2 : Int, IntKind.i64.wrap (a + last) = l2 ∧ l2 = a + last := ⟨a + last, wrap_in19 (by omega), rfl⟩
      have hlb2 : 0 ≤ la2 ∧ la2 ≤ 1099511627776 * ((k + 1 : Nat) + 1) := by omega
      obtain ⟨hi2, hhi2, hhi2e⟩ : ∃ l2 : Int, IntKind.i64.wrap (h + la2) = l2 ∧ l2 = h + la2 := ⟨h + la2, wrap_in19 (by omega), rfl⟩
      have HR5 : Hid (rngR b last q = rngK b c0 c1 c2 la2 hi2 q2) := Lib.hid (by
        unfold rngR
        rw [htr]
        simp only
        rw [hhi2e, hla2e])
      obtain ⟨b0, b1, b2, b3, b4, b5⟩ := blk6 hR2.box
      have f3 := blk_free hR2.box 3
      have hlt3 := heap_lt hR2.box
      clear htr hnum hvl hvr hk2 hRA hrA hg9' hla2e hhi2e har hhr
      go_upto_region 16 with fail
      have hR3 := hR2.put3 la2
      have hrd3 := blk_grown hrd2 (gset w2 ⟨g9, 3, none⟩ (.int .i64 la2)) (fun e => blk_ne hrd2 hR2.box (by decide) (by cases e; rfl))
      clear hR2 hrd2 b0 b1 b2 b3 b4 b5 f3 hlt3
      generalize w2.setCell ⟨g9, 3, none⟩ (.int .i64 la2) = w3 at *
      obtain ⟨b0, b1, b2, b3, b4, b5⟩ := blk6 hR3.box
      have f3 := blk_free hR3.box 4
      have hlt3 := heap_lt hR3.box
      go_upto_region 17 with fail
      have hR4 := hR3.put4 hi2
      have hrd4 := blk_grown hrd3 (gset w3 ⟨g9, 4, none⟩ (.int .i64 hi2)) (fun e => blk_ne hrd3 hR3.box (by decide) (by cases e; rfl))
      clear hR3 hrd3 b0 b1 b2 b3 b4 b5 f3 hlt3
      generalize w3.setCell ⟨g9, 4, none⟩ (.int .i64 hi2) = w4 at *
      obtain ⟨b0, b1, b2, b3, b4, b5⟩ := blk6 hR4.box
      go_wp2_with fail
      clear b0 b1 b2 b3 b4 b5
      have hcnt := lcCount_any gr x b q2 40 w4 (HX1.out w4 hR4.kept) hrd4 hl
      rcases hct : cntR 40 b q2 with e | ⟨cm, p4⟩
      · rw [hct] at hcnt
        refine hcnt.mono ?_
        rintro en w5 ⟨⟨v3, rfl⟩, he0, hg5⟩
        have hT5 := hT.next (hR4.reader hg5).kept
        have HPF : Hid (listR' b p = .error e) := Lib.hid (by
          unfold listR'
          rw [HTR.out]
          simp only [HCT.out, Int.toNat_natCast, HS.out, HSN.out]
          unfold rngsR
          simp only [HR5.out, rngK, hct]
          rfl)
        have e0 : (e != 0) = true := by simpa using he0
        have HE0 := Lib.hid he0
        clear hct hcnt he0 hg5 hR4 hrd4 hT hown hrd
        have hldt := run_loadAt_blk (P := Try.prog) w5 g4 66 66 _ (0, 0) _ hT5.tab Try.underlying66 rfl pl_size
        have hstt := run_storeAt_blk (P := Try.prog) w5 g2 66 66 _ #[.int .i64 lo, .int .i64 hi, .slice AY k cY] hT5.res pl_size rfl (by simp [Value.oneCell'])
        go_wp2_with first | refine wpList_load_run rfl 66 (.tmp 4) rfl _ _ rfl hldt ?_ | refine wpList_store_run rfl 66 (.tmp 2) (.tmp 70) rfl _ _ _ rfl rfl hstt ?_
        have hZ9 := setRow_heap w5 g2 _ #[.int .i64 lo, .int .i64 hi, .slice AY k cY] _ _ hT5.res
        have hk9 := hT5.kept.trans (Kept.of_grown (gsetRow w5 g2 #[.int .i64 lo, .int .i64 hi, .slice AY k cY]) hT5.kept.size (fun k e => by cases e; exact .inl hT5.low.1))
        clear hldt hstt
        generalize w5.setRow g2 #[.int .i64 lo, .int .i64 hi, .slice AY k cY] = w9 at *
        obtain ⟨k0, k1, k2⟩ := blk3 hZ9
        refine bodyPost_ret (v := .tuple #[.agg #[.int .i64 lo, .int .i64 hi, .slice AY k cY], .int .i64 e]) (by simp [results, Try.results90, go_sem, k0, k1, k2]) rfl ?_
        rw [HPF.out]
        exact ⟨⟨_, _, _, _, _, rfl⟩, HE0.out, hk9⟩
      rw [hct] at hcnt
      obtain ⟨hcm0, hcm1, hcm2⟩ := cntR_ok hct
      have hp4 := cntR_pos hct
      obtain ⟨m, rfl⟩ : ∃ m : Nat, cm = (m : Int) := ⟨cm.toNat, by omega⟩
      have HCM := Lib.hid hct
      refine hcnt.mono ?_
      rintro en w5 ⟨rfl, hrd5, hg5⟩
      have hR5 := hR4.reader hg5
      have HRZ := Lib.hid hrd
      have HTZ := Lib.hid hT
      have HOZ := Lib.hid hown
      have hm40 : m ≤ 40 := by omega
      have hp4' : 0 ≤ p4 ∧ p4 ≤ 1000000 := by omega
      clear hct hcnt hg5 hR4 hrd4 hrd hT hown hcm0 hcm1 hcm2 hp4
      go_wp2_with fail
      go_loopw [73] (fun i wr => ∃ (j : Nat) (ps : List Plc) (r : Int) (z : Value), j ≤ m ∧ i = .int .i64 (j : Int) ∧ Hid (ps.length = j) ∧ (0 ≤ r ∧ r ≤ 1000000) ∧ Hid (plcsR b m p4 = preR ps (plcsR b (m - j) r)) ∧ RL wz gr g9 c0 c1 c2 la2 hi2 z wr ∧ OwnR plcCells 3 75 wz.heap.size wr z ps ∧ wr.heap[gr]? = some (.cells #[x, .int .i64 r] 147 (0, 0))) (fun i _ => m - (intOf i).toNat)
      case atStart => exact ⟨0, [], p4, _, by omega, rfl, Lib.hid rfl, hp4', Lib.hid (by rw [preR_nil, Nat.sub_zero]), hR5, OwnR.nil _, hrd5⟩
      case round =>
        clear hR5 hrd5 hp4'
        obtain ⟨j, ps, r, z, hj, rfl, HJ, hrr, HO, hR, hps, hrd⟩ := hrel
        obtain ⟨wq, rfl⟩ : ∃ wq : World, wq = wr := ⟨_, rfl⟩
        obtain ⟨AZ, cZ, hzv, _, _⟩ := hps.inR
        rw [HJ.out] at hzv
        subst hzv
        by_cases hltj : j < m
        · have hij : (j : Int) < (m : Int) := by omega
          have HJN : Hid (m - j = (m - (j + 1)) + 1) := Lib.hid (by omega)
          have hplc := place_any gr x b r wq (HX1.out.mono hR.kept (fun i hi => by simp only [List.mem_cons, List.not_mem_nil, or_false] at hi ⊢; omega)) hrd hrr hl
          go_wp2_with fail
          rcases hpl : plcR b r with e | ⟨pc, r2⟩
          · rw [hpl] at hplc
            refine hplc.mono ?_
            rintro en w6 ⟨⟨a1, a2, a3, rfl⟩, he0, hk6⟩
            have hT6 := HTZ.out.next (hR.kept.drop1 hk6)
            have HPF : Hid (listR' b p = .error e) := Lib.hid (by
              unfold listR'
              rw [HTR.out]
              simp only [HCT.out, Int.toNat_natCast, HS.out, HSN.out]
              unfold rngsR
              simp only [HR5.out, rngK, HCM.out, Int.toNat_natCast, HO.out, HJN.out]
              unfold plcsR
              simp only [hpl]
              rfl)
            have e0 : (e != 0) = true := by simpa using he0
            have HE0 := Lib.hid he0
            clear hpl hplc he0 hk6 hR hps hrd hrr
            obtain ⟨hsto, hG, hXG⟩ := box_new (P := Try.prog) w6 75 #[.int .i64 0, .int .i64 0, .int .i64 0] #[.int .i64 a1, .int .i64 a2, .int .i64 a3] pc_size rfl (by simp [Value.oneCell'])
            go_upto_region 24 with first | refine wpList_store_run rfl 75 (.tmp 13) (.tmp 78) rfl _ _ _ rfl rfl hsto ?_
            have hT7 := hT6.ext hXG
            clear hsto hXG hT6 hG
            generalize (w6.alloc (.cells #[.int .i64 0, .int .i64 0, .int .i64 0] 75)).setRow w6.heap.size #[.int .i64 a1, .int .i64 a2, .int .i64 a3] = w7 at *
            have hldt := run_loadAt_blk (P := Try.prog) w7 g4 66 66 _ (0, 0) _ hT7.tab Try.underlying66 rfl pl_size
            have hstt := run_storeAt_blk (P := Try.prog) w7 g2 66 66 _ #[.int .i64 lo, .int .i64 hi, .slice AY k cY] hT7.res pl_size rfl (by simp [Value.oneCell'])
            go_wp2_with first | refine wpList_load_run rfl 66 (.tmp 4) rfl _ _ rfl hldt ?_ | refine wpList_store_run rfl 66 (.tmp 2) (.tmp 82) rfl _ _ _ rfl rfl hstt ?_
            have hZ9 := setRow_heap w7 g2 _ #[.int .i64 lo, .int .i64 hi, .slice AY k cY] _ _ hT7.res
            have hk9 := hT7.kept.trans (Kept.of_grown (gsetRow w7 g2 #[.int .i64 lo, .int .i64 hi, .slice AY k cY]) hT7.kept.size (fun k e => by cases e; exact .inl hT7.low.1))
            clear hldt hstt
            generalize w7.setRow g2 #[.int .i64 lo, .int .i64 hi, .slice AY k cY] = w9 at *
            obtain ⟨k0, k1, k2⟩ := blk3 hZ9
            refine bodyPost_ret (v := .tuple #[.agg #[.int .i64 lo, .int .i64 hi, .slice AY k cY], .int .i64 e]) (by simp [results, Try.results90, go_sem, k0, k1, k2]) rfl ?_
            rw [HPF.out]
            exact ⟨⟨_, _, _, _, _, rfl⟩, HE0.out, hk9⟩
          rw [hpl] at hplc
          obtain ⟨hpc, hr2a, hr2b⟩ := plcR_ok hrr.1 hpl
          have hrr2 : 0 ≤ r2 ∧ r2 ≤ 1000000 := by omega
          have HO2 : Hid (plcsR b m p4 = preR (ps ++ [pc]) (plcsR b (m - (j + 1)) r2)) := Lib.hid (by
            rw [HO.out, HJN.out]
            conv => lhs; unfold plcsR
            simp only [hpl]
            rw [preR_preR])
          refine hplc.mono ?_
          rintro en w6 ⟨rfl, hrd6, hk6⟩
          have hR6 := hR.next hk6
          have hps6 := hk6.own1 hps hrd (by decide)
          clear hpl hplc hk6 hR hps hrd hrr hpc hr2a hr2b
          obtain ⟨hsto, hG, hXG⟩ := box_new (P := Try.prog) w6 75 #[.int .i64 0, .int .i64 0, .int .i64 0] #[.int .i64 pc.kind, .int .i64 pc.n, .int .i64 pc.add] pc_size rfl (by simp [Value.oneCell'])
          go_upto_region 24 with first | refine wpList_store_run rfl 75 (.tmp 13) (.tmp 78) rfl _ _ _ rfl rfl hsto ?_
          obtain ⟨g13, hg13⟩ : ∃ g, g = w6.heap.size := ⟨_, rfl⟩
          rw [← hg13] at hG hXG ⊢
          generalize (w6.alloc (.cells #[.int .i64 0, .int .i64 0, .int .i64 0] 75)).setRow g13 #[.int .i64 pc.kind, .int .i64 pc.n, .int .i64 pc.add] = w7 at *
          have hR7 := hR6.ext hXG
          have hps7 := hps6.ext hXG
          have hrd7 := hXG.heap hrd6
          clear hsto hXG hR6 hps6 hrd6 hg13
          have hldp := run_loadAt_blk (P := Try.prog) w7 g13 75 75 _ (0, 0) _ hG Try.underlying75 rfl pc_size
          have hA8 := (Ext.refl w7).alloc (.cells #[.int .i64 pc.kind, .int .i64 pc.n, .int .i64 pc.add] 75)
          have hin8 : InR plcCells (w7.alloc (.cells #[.int .i64 pc.kind, .int .i64 pc.n, .int .i64 pc.add] 75)) (.slice (some ⟨w7.heap.size, 0, none⟩) 1 1) [pc] := (OwnR_one (f := plcCells) w7 pc rfl 75).inR
          have hsz8 := Nat.le_trans hR7.kept.size hA8.size
          have hps8 := hps7.ext hA8
          have hj8 : j < 40 := by omega
          obtain ⟨b0, b1, b2, b3, b4, b5⟩ := blk6 hR7.box
          go_upto_region 26 with fail
          go_wp2_with first | refine wpList_load_run rfl 75 (.tmp 13) rfl _ _ rfl hldp ?_ | refine wpList_rowOne elem_pc rfl (.tmp 86) rfl #[.int .i64 pc.kind, .int .i64 pc.n, .int .i64 pc.add] rfl rfl (by omega) ?_ | (at_builtin; go_must (refine wpList_appendR elem_pc rfl (.tmp 85) (.tmp 87) rfl wz.heap.size _ ps rfl hps8 _ [pc] rfl hin8 (fun _ _ => rfl) (fun b hb u hu => by simp only [List.mem_singleton] at hb; subst hb; simp only [plcCells, List.mem_cons, List.not_mem_nil, or_false] at hu; rcases hu with rfl | rfl | rfl <;> rfl) (by have := HJ.out; simp only [List.length_cons, List.length_nil]; omega) (by omega) hsz8 (Hold.out ?_)))
          refine Hold.mk fun v9 w9 ho9 hg9 => ?_
          have hR8 := hR7.ext hA8
          have hR9 := hR8.grown hg9.grown (hps8.ne_blk hR8.box (by decide)).symm (fun k e => .inl (hps8.ge k e))
          have hrd9 := blk_grown (hA8.heap hrd7) hg9.grown (hps8.ne_blk (hA8.heap hrd7) (by decide)).symm
          obtain ⟨A9, c9, hv9, _, _⟩ := ho9.inR
          rw [List.length_append, HJ.out, List.length_singleton] at hv9
          subst hv9
          have HJ9 : Hid ((ps ++ [pc]).length = j + 1) := Lib.hid (by rw [List.length_append, HJ.out]; rfl)
          have f2 := blk_free hR9.box 5
          have u2 := blk_at hR9.box 5 _ rfl
          have hlt9 := heap_lt hR9.box
          clear hldp hA8 hin8 hsz8 hps8 hR8 hR7 hps7 hrd7 hg9 b0 b1 b2 b3 b4 b5 hG
          go_upto_region 27 with fail
          have hRn := hR9.put5 (.slice A9 (j + 1) c9)
          have s4 := gset w9 ⟨g9, 5, none⟩ (.slice A9 (j + 1) c9)
          have hpn := ho9.kept s4 (.inr (ho9.ne_blk hR9.box (by decide)))
          have hrn := blk_grown hrd9 s4 (fun e => blk_ne hrd9 hR9.box (by decide) (by cases e; rfl))
          clear s4 hR9 ho9 hrd9 f2 u2 hlt9
          generalize w9.setCell ⟨g9, 5, none⟩ (.slice A9 (j + 1) c9) = wn at *
          go_wp2_with fail
          go_roundw
          case rel => exact ⟨j + 1, ps ++ [pc], r2, _, by omega, by first | (with_reducible rfl) | go_num, HJ9, hrr2, HO2, hRn, hpn, hrn⟩
          case measure => simp [intOf]; omega
        · have hij : ¬ (j : Int) < (m : Int) := by omega
          have HS2 : Hid (rngsR b n lo p2 = preR (rs ++ [⟨c0, c1, c2, la2, hi2, ps⟩]) (rngsR b (n - (k + 1)) la2 r)) := Lib.hid (by
            have e : m - j = 0 := by omega
            have h1 : plcsR b m p4 = .ok (ps, r) := by rw [HO.out, e]; simp [plcsR, preR]
            rw [HS.out, HSN.out]
            conv => lhs; unfold rngsR
            simp only [HR5.out, rngK, HCM.out, Int.toNat_natCast, h1]
            rw [preR_preR])
          have hT2 := HTZ.out.next hR.kept
          obtain ⟨zt, hz1, hz2, hz3⟩ := hR.kept.rngs HOZ.out HRZ.out
          have hps2 := hps.low HTZ.out.kept.size
          have HZ1 := Lib.hid hz1
          have HZ3 := Lib.hid hz3
          have hzl : zt.length = k := by
            have h1 : zt.length = rs.length := by rw [← hz1]; simp
            rw [h1, HK.out]
          clear hz1 hz3 HO hps
          obtain ⟨t0, t1, t2⟩ := blk3 hT2.tab
          have hlds := run_loadAt_blk (P := Try.prog) wq g9 69 69 _ (0, 0) _ hR.box Try.underlying69 rfl rg_size
          have hA5 := (Ext.refl wq).alloc (.cells #[.int .i64 c0, .int .i64 c1, .int .i64 c2, .int .i64 la2, .int .i64 hi2, .slice AZ j cZ] 69)
          have hin5 : InR rngCells (wq.alloc (.cells #[.int .i64 c0, .int .i64 c1, .int .i64 c2, .int .i64 la2, .int .i64 hi2, .slice AZ j cZ] 69)) (.slice (some ⟨wq.heap.size, 0, none⟩) 1 1) [(⟨c0, c1, c2, la2, hi2, ps⟩, .slice AZ j cZ)] := (OwnR_one (f := rngCells) wq (⟨c0, c1, c2, la2, hi2, ps⟩, .slice AZ j cZ) rfl 69).inR
          have hsz5 := Nat.le_trans hT2.kept.size hA5.size
          have hz5 := hz2.ext hA5
          have hk8 : k < 8000 := by omega
          go_upto_region 28 with fail
          go_wp2_with first | refine wpList_load_run rfl 69 (.tmp 9) rfl _ _ rfl hlds ?_ | refine wpList_rowOne elem_rg rfl (.tmp 93) rfl #[.int .i64 c0, .int .i64 c1, .int .i64 c2, .int .i64 la2, .int .i64 hi2, .slice AZ j cZ] rfl rfl (by omega) ?_ | (at_builtin; go_must (refine wpList_appendR elem_rg rfl (.tmp 92) (.tmp 94) rfl w.heap.size _ zt rfl hz5 _ [(⟨c0, c1, c2, la2, hi2, ps⟩, .slice AZ j cZ)] rfl hin5 (fun _ _ => rfl) (fun b hb u hu => by simp only [List.mem_singleton] at hb; subst hb; simp only [rngCells, List.mem_cons, List.not_mem_nil, or_false] at hu; rcases hu with rfl | rfl | rfl | rfl | rfl | rfl <;> rfl) (by simp only [List.length_cons, List.length_nil]; omega) (by omega) hsz5 (Hold.out ?_)))
          refine Hold.mk fun v9 w9 ho9 hg9 => ?_
          have hT5 := hT2.ext hA5
          have hT9 := hT5.grown hg9.grown (hz5.ne_blk hT5.res (by decide)).symm (hz5.ne_blk hT5.tab (by decide)).symm (fun k e => .inl (hz5.ge k e))
          have hrd9 := blk_grown (hA5.heap hrd) hg9.grown (hz5.ne_blk (hA5.heap hrd) (by decide)).symm
          have hon9 : RngsOwn w.heap.size w9 v9 (rs ++ [⟨c0, c1, c2, la2, hi2, ps⟩]) := by
            refine ⟨zt ++ [(⟨c0, c1, c2, la2, hi2, ps⟩, .slice AZ j cZ)], by rw [List.map_append, HZ1.out]; rfl, ho9, fun z hz => ?_⟩
            have hin' : ∀ (v : Value) (l : List Plc), OwnR plcCells 3 75 w.heap.size (wq.alloc (.cells #[.int .i64 c0, .int .i64 c1, .int .i64 c2, .int .i64 la2, .int .i64 hi2, .slice AZ j cZ] 69)) v l → OwnR plcCells 3 75 w.heap.size w9 v l := fun v l hzz => hzz.kept hg9.grown (row_ne hzz hz5 (by decide))
            rcases List.mem_append.1 hz with hz | hz
            · exact hin' _ _ ((HZ3.out z hz).ext hA5)
            · simp only [List.mem_singleton] at hz
              subst hz
              exact hin' _ _ (hps2.ext hA5)
          obtain ⟨A9, c9, hv9⟩ := hon9.in_.form
          have HK9 : Hid ((rs ++ [(⟨c0, c1, c2, la2, hi2, ps⟩ : Rng)]).length = k + 1) := Lib.hid (by rw [List.length_append, HK.out]; rfl)
          rw [HK9.out] at hv9
          subst hv9
          have f2 := blk_free hT9.tab 2
          have u2 := blk_at hT9.tab 2 _ rfl
          have hlt9 := heap_lt hT9.tab
          clear hlds hA5 hin5 hsz5 hz5 hz2 hT5 hT2 hps2 hrd ho9 hg9 t0 t1 t2 hR
          go_upto_region 29 with fail
          have hTn := hT9.put2 (.slice A9 (k + 1) c9)
          have s4 := gset w9 ⟨g4, 2, none⟩ (.slice A9 (k + 1) c9)
          have hon := hon9.put hT9.tab s4
          have hrn := blk_grown hrd9 s4 (fun e => hgl (by cases e; rfl))
          clear s4 hT9 hon9 hrd9 f2 u2 hlt9
          generalize w9.setCell ⟨g4, 2, none⟩ (.slice A9 (k + 1) c9) = wn at *
          go_wp2_with fail
          go_roundw
          case rel => exact ⟨k + 1, rs ++ [⟨c0, c1, c2, la2, hi2, ps⟩], la2, r, _, by omega, by first | (with_reducible rfl) | go_num, rfl, hlb2, HK9, HS2, hTn, hon, hrn⟩
          case measure => simp [intOf]; omega
    · have hik : ¬ (k : Int) < (n : Int) := by omega
      have HPF : Hid (listR' b p = .ok (⟨lo, hi, rs⟩, q)) := Lib.hid (by
        have e : n - k = 0 := by omega
        have h1 : rngsR b n lo p2 = .ok (rs, q) := by rw [HS.out, e]; simp [rngsR, preR]
        unfold listR'
        rw [HTR.out]
        simp only [HCT.out, Int.toNat_natCast, h1])
      clear HS
      have hldt := run_loadAt_blk (P := Try.prog) wz g4 66 66 _ (0, 0) _ hT.tab Try.underlying66 rfl pl_size
      have hstt := run_storeAt_blk (P := Try.prog) wz g2 66 66 _ #[.int .i64 lo, .int .i64 hi, .slice AY k cY] hT.res pl_size rfl (by simp [Value.oneCell'])
      go_wp2_with first | refine wpList_load_run rfl 66 (.tmp 4) rfl _ _ rfl hldt ?_ | refine wpList_store_run rfl 66 (.tmp 2) (.tmp 98) rfl _ _ _ rfl rfl hstt ?_
      have hZ9 := setRow_heap wz g2 _ #[.int .i64 lo, .int .i64 hi, .slice AY k cY] _ _ hT.res
      have s9 := gsetRow wz g2 #[.int .i64 lo, .int .i64 hi, .slice AY k cY]
      have hk9 := hT.kept.trans (Kept.of_grown s9 hT.kept.size (fun k e => by cases e; exact .inl hT.low.1))
      have hown9 := hown.put hT.res s9
      have hrd9 := blk_grown hrd s9 (fun e => by have := hT.low; cases e; omega)
      clear hldt hstt s9 hown hrd
      generalize wz.setRow g2 #[.int .i64 lo, .int .i64 hi, .slice AY k cY] = w9 at *
      obtain ⟨k0, k1, k2⟩ := blk3 hZ9
      refine bodyPost_ret (v := .tuple #[.agg #[.int .i64 lo, .int .i64 hi, .slice AY k cY], .int .i64 0]) (by simp [results, Try.results90, go_sem, k0, k1, k2]) rfl ?_
      rw [HPF.out]
      exact ⟨_, rfl, hown9, hrd9, hk9⟩
end Go.Proofs.Ytokmbdeafjmcjaa
/- The walk of locs.Decode. -/
namespace Go.Proofs.Ytokmbdeafjmcjaa
open Go.RowKit
set_option linter.unusedVariables false
set_option linter.unusedSimpArgs false

def DecPPost (r : Except Int (List PTab)) (w : World) (en : Ending) (w' : World) : Prop :=
  match r with
  | .error e => en = .returned (.tuple #[.slice none 0 0, .int .i64 e]) ∧ Ext w w'
  | .ok l => (∃ y, en = .returned (.tuple #[y, .int .i64 0]) ∧ POwn w.heap.size w' y l) ∧ Ext w w'
theorem Kept.pown2 {b0 gr : Nat} {w W : World} {v : Value} {l : List PTab} {C : Array Value} {fr : Nat × Nat} (h : Kept w.heap.size [gr] w W) (ho : POwn b0 w v l) (hr : w.heap[gr]? = some (.cells C 147 fr)) : POwn b0 W v l := by
  obtain ⟨zs, h1, h2, h3⟩ := ho
  exact ⟨zs, h1, h.own1 h2 hr (by decide), fun z hz => h.rngs (h3 z hz) hr⟩
theorem RngsOwn.beside {base b2 : Nat} {w w' : World} {v v2 : Value} {l : List Rng} {zt : List (PTab × Value)} (h : RngsOwn base w v l) (hr : OwnR ptabCells 3 66 b2 w v2 zt) (hg : w.grownBy w' v2.ownBlock) : RngsOwn base w' v l := by
  obtain ⟨zs, h1, h2, h3⟩ := h
  exact ⟨zs, h1, h2.kept hg (row_ne h2 hr (by decide)), fun z hz => (h3 z hz).kept hg (row_ne (h3 z hz) hr (by decide))⟩
set_option maxHeartbeats 40000000 in
set_option maxRecDepth 100000 in
theorem PDecode_any (x : Value) (b : List UInt8) (w : World) (hx : InB w x b) (hl : b.length ≤ 1000000) : Calls Try.prog 66 #[x] w (DecPPost (decP b) w) := by
  obtain ⟨A, c, rfl, _, _⟩ := id hx
  obtain ⟨n0, hn0⟩ : ∃ n0, n0 = b.length := ⟨_, rfl⟩
  have HL := Lib.hid hl
  have HN0 := Lib.hid hn0
  have HX := Lib.hid hx
  rw [← hn0] at hl ⊢
  clear hx
  go_enter Try.func66, Try.ntmps66
  by_cases h6 : 60000 < n0
  case pos =>
    have d6 : decide ((60000 : Int) < (n0 : Int)) = true := by simp; omega
    have HP : Hid (decP b = .error 5) := Lib.hid (by unfold decP; rw [if_pos (by rw [← hn0]; exact h6)])
    clear hn0
    go_wp2_with fail
    refine bodyPost_ret (by simp [results, Try.results66, go_sem]; rfl) rfl ?_
    rw [HP.out]
    exact ⟨rfl, Ext.refl _⟩
  have d6 : decide ((60000 : Int) < (n0 : Int)) = false := by simp; omega
  have H6 : Hid (¬ 60000 < b.length) := Lib.hid (by rw [← hn0]; exact h6)
  have hx0 : InB w (.slice A n0 c) b := by have := HX.out; rw [← HN0.out] at this; exact this
  clear hn0 h6 HX
  go_upto_region 4 with fail
  obtain ⟨gr, hgr⟩ : ∃ g, g = w.heap.size := ⟨_, rfl⟩
  have hB := heap_alloc_new w (.cells #[.slice A n0 c, .int .i64 0] 147)
  have hE := (Ext.refl w).alloc (.cells #[.slice A n0 c, .int .i64 0] 147)
  rw [← hgr] at hB ⊢
  have hlow : w.heap.size ≤ gr := by omega
  have HX0 := Lib.hid hx0
  clear hgr hx0
  generalize w.alloc (.cells #[.slice A n0 c, .int .i64 0] 147) = w1 at *
  go_wp2_with fail
  have hcnt := lcCount_any gr _ b 0 8 w1 (HX0.out.ext hE) hB HL.out
  rcases hct : cntR 8 b 0 with e | ⟨cn, p1⟩
  · rw [hct] at hcnt
    refine hcnt.mono ?_
    rintro en w2 ⟨⟨v3, rfl⟩, he0, hg2⟩
    have hE2 := hE.grown hg2 (fun k e => by cases e; exact hlow)
    have HP : Hid (decP b = .error e) := Lib.hid (by unfold decP; rw [if_neg H6.out]; simp only [hct])
    have e0 : (e != 0) = true := by simpa using he0
    clear hct hcnt he0 hg2 hB hE
    go_wp2_with fail
    refine bodyPost_ret (by simp [results, Try.results66, go_sem]; rfl) rfl ?_
    rw [HP.out]
    exact ⟨rfl, hE2⟩
  rw [hct] at hcnt
  obtain ⟨hcn0, hcn1, hcn2⟩ := cntR_ok hct
  obtain ⟨n, rfl⟩ : ∃ n : Nat, cn = (n : Int) := ⟨cn.toNat, by omega⟩
  have HCT := Lib.hid hct
  refine hcnt.mono ?_
  rintro en w2 ⟨rfl, hb2, hg2⟩
  have hE2 := hE.grown hg2 (fun k e => by cases e; exact hlow)
  clear hct hcnt hg2 hB hE hcn0 hcn2
  go_wp2_with fail
  go_loopw [7, 25] (fun v i wr => ∃ (j : Nat) (l : List PTab) (q : Int), j ≤ n ∧ i = .int .i64 (j : Int) ∧ Hid (l.length = j) ∧ Hid (listsR b n p1 = preR l (listsR b (n - j) q)) ∧ Hid (∀ t ∈ l, t.R) ∧ wr.heap[gr]? = some (.cells #[.slice A n0 c, .int .i64 q] 147 (0, 0)) ∧ POwn w.heap.size wr v l ∧ Ext w wr) (fun _ i _ => n - (intOf i).toNat)
  case atStart => exact ⟨0, [], p1, by omega, rfl, Lib.hid rfl, Lib.hid (by rw [preR_nil, Nat.sub_zero]), Lib.hid (by simp), hb2, POwn.nil _ _, hE2⟩
  case round =>
    clear hb2 hE2
    obtain ⟨j, l, q, hj, rfl, HJ, HT, HR, hrd, hT, hX⟩ := hrel
    obtain ⟨wo, rfl⟩ : ∃ wo : World, wo = wr := ⟨_, rfl⟩
    by_cases hlt : j < n
    · have hij : (j : Int) < (n : Int) := by omega
      have HSN : Hid (n - j = (n - (j + 1)) + 1) := Lib.hid (by omega)
      have hst : St [gr] wo (fun W => InB W (.slice A n0 c) b) := fun W hk => HX0.out.ext (hk.ext hX hX.size (fun i hi => by simp only [List.mem_cons, List.not_mem_nil, or_false] at hi; subst hi; exact hlow))
      have htab := list_any gr _ b q wo hst hrd HL.out
      go_wp2_with fail
      rcases htr : listR' b q with e | ⟨t, q2⟩
      · rw [htr] at htab
        refine htab.mono ?_
        rintro en w3 ⟨⟨lo, hi, A2, n2, c2, rfl⟩, he0, hk3⟩
        have hX3 := hk3.ext hX hX.size (fun i hi => by simp only [List.mem_cons, List.not_mem_nil, or_false] at hi; subst hi; exact hlow)
        have HP : Hid (decP b = .error e) := Lib.hid (by
          unfold decP
          rw [if_neg H6.out]
          simp only [HCT.out, Int.toNat_natCast, HT.out, HSN.out]
          unfold listsR
          simp only [htr]
          rfl)
        have e0 : (e != 0) = true := by simpa using he0
        clear htr htab he0 hk3 hst hrd hT hX
        obtain ⟨hsto, hG, hXG⟩ := box_new (P := Try.prog) w3 66 #[.int .i64 0, .int .i64 0, .slice none 0 0] #[.int .i64 lo, .int .i64 hi, .slice A2 n2 c2] pl_size rfl (by simp [Value.oneCell'])
        go_upto_region 11 with first | refine wpList_store_run rfl 66 (.tmp 8) (.tmp 30) rfl _ _ _ rfl rfl hsto ?_
        have hX4 := hX3.trans hXG
        clear hsto hXG hX3
        generalize (w3.alloc (.cells #[.int .i64 0, .int .i64 0, .slice none 0 0] 66)).setRow w3.heap.size #[.int .i64 lo, .int .i64 hi, .slice A2 n2 c2] = w4 at *
        go_wp2_with fail
        refine bodyPost_ret (by simp [results, Try.results66, go_sem]; rfl) rfl ?_
        rw [HP.out]
        exact ⟨rfl, hX4⟩
      rw [htr] at htab
      have HTR := Lib.hid (listR'_ok htr)
      have HT2 : Hid (listsR b n p1 = preR (l ++ [t]) (listsR b (n - (j + 1)) q2)) := Lib.hid (by
        rw [HT.out, HSN.out]
        conv => lhs; unfold listsR
        simp only [htr]
        rw [preR_preR])
      refine htab.mono ?_
      rintro en w3 ⟨y, rfl, hs3, hrd3, hk3⟩
      have hX3 := hk3.ext hX hX.size (fun i hi => by simp only [List.mem_cons, List.not_mem_nil, or_false] at hi; subst hi; exact hlow)
      have hT3 := Kept.pown2 hk3 hT hrd
      have hs3' := hs3.low hX.size
      clear htr htab hst hk3 hX hT hrd hs3
      obtain ⟨A2, c2, hy⟩ := hs3'.in_.form
      obtain ⟨n2, hn2⟩ : ∃ n5, n5 = t.ranges.length := ⟨_, rfl⟩
      rw [← hn2] at hy
      subst hy
      clear hn2
      obtain ⟨hsto, hG, hXG⟩ := box_new (P := Try.prog) w3 66 #[.int .i64 0, .int .i64 0, .slice none 0 0] #[.int .i64 t.lo, .int .i64 t.hi, .slice A2 n2 c2] pl_size rfl (by simp [Value.oneCell'])
      go_upto_region 13 with first | refine wpList_store_run rfl 66 (.tmp 8) (.tmp 30) rfl _ _ _ rfl rfl hsto ?_
      obtain ⟨g8, hg8⟩ : ∃ g, g = w3.heap.size := ⟨_, rfl⟩
      rw [← hg8] at hG hXG ⊢
      generalize (w3.alloc (.cells #[.int .i64 0, .int .i64 0, .slice none 0 0] 66)).setRow g8 #[.int .i64 t.lo, .int .i64 t.hi, .slice A2 n2 c2] = w4 at *
      have hT4 := hT3.ext hXG
      have hX4 := hX3.trans hXG
      have hrd4 := hXG.heap hrd3
      have hs4 := hs3'.ext hXG
      clear hsto hXG hT3 hX3 hrd3 hs3' hg8
      obtain ⟨zt, hz1, hz2, hz3⟩ := hT4
      have HZ1 := Lib.hid hz1
      have HZ3 := Lib.hid hz3
      have hzl : zt.length ≤ 8 := by have h1 : zt.length = l.length := by rw [← hz1]; simp
                                     rw [h1, HJ.out]; omega
      clear hz1 hz3
      have hldt := run_loadAt_blk (P := Try.prog) w4 g8 66 66 _ (0, 0) _ hG Try.underlying66 rfl pl_size
      have hA5 := (Ext.refl w4).alloc (.cells #[.int .i64 t.lo, .int .i64 t.hi, .slice A2 n2 c2] 66)
      have hin5 : InR ptabCells (w4.alloc (.cells #[.int .i64 t.lo, .int .i64 t.hi, .slice A2 n2 c2] 66)) (.slice (some ⟨w4.heap.size, 0, none⟩) 1 1) [(t, .slice A2 n2 c2)] := (OwnR_one (f := ptabCells) w4 (t, .slice A2 n2 c2) rfl 66).inR
      have hsz5 := Nat.le_trans hX4.size hA5.size
      go_wp2_with first | refine wpList_load_run rfl 66 (.tmp 8) rfl _ _ rfl hldt ?_ | refine wpList_rowOne elem_pl rfl (.tmp 36) rfl #[.int .i64 t.lo, .int .i64 t.hi, .slice A2 n2 c2] rfl rfl (by omega) ?_ | (at_builtin; go_must (refine wpList_appendR elem_pl rfl (.tmp 35) (.tmp 37) rfl w.heap.size _ zt rfl (hz2.ext hA5) _ [(t, .slice A2 n2 c2)] rfl hin5 (fun _ _ => rfl) (fun a ha u hu => by simp only [List.mem_singleton] at ha; subst ha; simp only [ptabCells, List.mem_cons, List.not_mem_nil, or_false] at hu; rcases hu with rfl | rfl | rfl <;> rfl) (by simp only [List.length_cons, List.length_nil]; omega) (by omega) hsz5 (Hold.out ?_)))
      refine Hold.mk fun v9 w9 ho9 hg9 => ?_
      have hTn : POwn w.heap.size w9 v9 (l ++ [t]) := by
        refine ⟨zt ++ [(t, .slice A2 n2 c2)], by rw [List.map_append, HZ1.out]; rfl, ho9, fun z hz => ?_⟩
        rcases List.mem_append.1 hz with hz | hz
        · exact ((HZ3.out z hz).ext hA5).beside (hz2.ext hA5) hg9.grown
        · simp only [List.mem_singleton] at hz
          subst hz
          exact (hs4.ext hA5).beside (hz2.ext hA5) hg9.grown
      have hrd9 := blk_grown (hA5.heap hrd4) hg9.grown (fun e => hz2.ne_blk hrd4 (by decide) e.symm)
      have hX9 : Ext w w9 := hg9.ext (hX4.trans hA5) hz2.ge
      have HJ9 : Hid ((l ++ [t]).length = j + 1) := Lib.hid (by rw [List.length_append, HJ.out]; rfl)
      have HR9 : Hid (∀ s ∈ l ++ [t], s.R) := Lib.hid (fun s hs => by
        rcases List.mem_append.1 hs with hs | hs
        · exact HR.out s hs
        · simp only [List.mem_singleton] at hs
          subst hs
          exact HTR.out)
      clear hldt hA5 hin5 hsz5 ho9 hg9 hrd4 hX4 hz2 hs4 hG
      go_wp2_with fail
      go_roundw
      case rel => exact ⟨j + 1, l ++ [t], q2, by omega, by first | (with_reducible rfl) | go_num, HJ9, HT2, HR9, hrd9, hTn, hX9⟩
      case measure => simp [intOf]; omega
    · have hij : ¬ (j : Int) < (n : Int) := by omega
      have HTS : Hid (listsR b n p1 = .ok (l, q)) := Lib.hid (by
        have e : n - j = 0 := by omega
        rw [HT.out, e]
        simp [listsR, preR])
      have HD1 : Hid ((q < b.length ∨ ¬ RightP l) → decP b = .error 4) := Lib.hid (fun h => by
        unfold decP
        rw [if_neg H6.out]
        simp only [HCT.out, Int.toNat_natCast, HTS.out]
        rw [if_pos h])
      have HD2 : Hid (¬ (q < b.length ∨ ¬ RightP l) → decP b = .ok l) := Lib.hid (fun h => by
        unfold decP
        rw [if_neg H6.out]
        simp only [HCT.out, Int.toNat_natCast, HTS.out]
        rw [if_neg h])
      have hll : l.length ≤ 8 := by rw [HJ.out]; omega
      obtain ⟨nl, hnl⟩ : ∃ m, m = l.length := ⟨_, rfl⟩
      have hq1 := blk_at hrd 1 _ rfl
      clear HT
      by_cases hq : q < (n0 : Int)
      · have dq : decide (q < (n0 : Int)) = true := by simpa using hq
        have HP : Hid (decP b = .error 4) := Lib.hid (HD1.out (.inl (by rw [← HN0.out]; exact hq)))
        clear hq hnl
        go_wp2_with fail
        refine bodyPost_ret (by simp [results, Try.results66, go_sem]; rfl) rfl ?_
        rw [HP.out]
        exact ⟨rfl, hX⟩
      · have dq : decide (q < (n0 : Int)) = false := by simpa using hq
        have HQ : Hid (¬ q < (b.length : Int)) := Lib.hid (by rw [← HN0.out]; exact hq)
        clear hq hnl
        go_wp2_with fail
        refine (PRight_any l _ wo hT.in_ (fun t ht => (HR.out t ht).toI) (by omega)).mono ?_
        rintro en w5 ⟨r, rfl, hr, hx5⟩
        have hX5 := hX.trans hx5
        cases r with
        | false =>
          have HP : Hid (decP b = .error 4) := Lib.hid (HD1.out (.inr (fun h => by have := hr.2 h; cases this)))
          clear hr
          go_wp2_with fail
          refine bodyPost_ret (by simp [results, Try.results66, go_sem]; rfl) rfl ?_
          rw [HP.out]
          exact ⟨rfl, hX5⟩
        | true =>
          have HP : Hid (decP b = .ok l) := Lib.hid (HD2.out (fun h => h.elim (fun h1 => by have := HQ.out; omega) (fun h2 => h2 (hr.1 rfl))))
          clear hr
          go_wp2_with fail
          refine bodyPost_ret (by simp [results, Try.results66, go_sem]; rfl) rfl ?_
          rw [HP.out]
          exact ⟨⟨_, rfl, hT.ext hx5⟩, hX5⟩
end Go.Proofs.Ytokmbdeafjmcjaa
