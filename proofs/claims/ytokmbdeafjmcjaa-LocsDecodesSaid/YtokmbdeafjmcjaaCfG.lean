/- The walk that reads a frame table. -/
import Derived.Test.YtokmbdeafjmcjaaCfD
namespace Go.Proofs.Ytokmbdeafjmcjaa
open Go.RowKit
set_option linter.unusedVariables false
set_option linter.unusedSimpArgs false

def TabRPost (gr : Nat) (x : Value) (r : Except Int (FTab × Int)) (w : World) (en : Ending) (w' : World) : Prop :=
  match r with
  | .error e => (∃ (lo hi : Int) (A2 : Option Addr) (n2 c2 : Nat) (A3 : Option Addr) (n3 c3 : Nat), en = .returned (.tuple #[.agg #[.int .i64 lo, .int .i64 hi, .slice A2 n2 c2, .slice A3 n3 c3], .int .i64 e])) ∧ e ≠ 0 ∧ Kept w.heap.size [gr] w w'
  | .ok (t, q) => ∃ y z, en = .returned (.tuple #[.agg #[.int .i64 t.lo, .int .i64 t.hi, y, z], .int .i64 0]) ∧ OwnR stpCells 2 78 w.heap.size w' y t.steps ∧ OwnR objCells 4 83 w.heap.size w' z t.objs ∧ w'.heap[gr]? = some (.cells #[x, .int .i64 q] 122 (0, 0)) ∧ Kept w.heap.size [gr] w w'
/-- the boxes of the walk -/
structure TB (w : World) (gr g2 g4 : Nat) (lo hi : Int) (y z : Value) (W : World) : Prop where
  res : W.heap[g2]? = some (.cells #[.int .i64 0, .int .i64 0, .slice none 0 0, .slice none 0 0] 27 (0, 0))
  tab : W.heap[g4]? = some (.cells #[.int .i64 lo, .int .i64 hi, y, z] 27 (0, 0))
  kept : Kept w.heap.size [gr] w W
  low : w.heap.size ≤ g2 ∧ w.heap.size ≤ g4 ∧ g2 ≠ g4 ∧ gr < w.heap.size
section
variable {w W W' : World} {gr g2 g4 : Nat} {lo hi lo' hi' : Int} {y z : Value}
theorem TB.ext (h : TB w gr g2 g4 lo hi y z W) (he : Ext W W') : TB w gr g2 g4 lo hi y z W' := ⟨he.heap h.res, he.heap h.tab, h.kept.trans (Kept.of_ext he h.kept.size), h.low⟩
theorem TB.kept2 (h : TB w gr g2 g4 lo hi y z W) {xs : List Nat} (hk : Kept W.heap.size xs W W') (hx : ∀ i ∈ xs, i = gr ∨ w.heap.size ≤ i) : Kept w.heap.size [gr] w W' :=
  ⟨hk.os.trans h.kept.os, hk.tape.trans h.kept.tape, hk.output.trans h.kept.output, Nat.le_trans h.kept.size hk.size, fun i hi hn => (hk.block i (Nat.lt_of_lt_of_le hi h.kept.size) (fun hm => by
    rcases hx i hm with e | e
    · exact hn (by simp [e])
    · omega)).trans (h.kept.block i hi hn)⟩
/-- other blocks are written -/
theorem TB.aside (h : TB w gr g2 g4 lo hi y z W) {g : Nat} (hk : Kept W.heap.size [gr, g] W W') (h2 : g ≠ g2) (h4 : g ≠ g4) (hl : w.heap.size ≤ g) : TB w gr g2 g4 lo hi y z W' := by
  have hlow := h.low
  exact ⟨hk.heap h.res (heap_lt h.res) (fun hm => by simp only [List.mem_cons, List.not_mem_nil, or_false] at hm; omega), hk.heap h.tab (heap_lt h.tab) (fun hm => by simp only [List.mem_cons, List.not_mem_nil, or_false] at hm; omega), h.kept2 hk (fun i hi => by simp only [List.mem_cons, List.not_mem_nil, or_false] at hi; omega), h.low⟩
theorem TB.nums (h : TB w gr g2 g4 lo hi y z W) (hk : Kept W.heap.size [gr, g4] W W') (hg : W'.heap[g4]? = some (.cells #[.int .i64 lo', .int .i64 hi', y, z] 27 (0, 0))) : TB w gr g2 g4 lo' hi' y z W' := by
  have hlow := h.low
  exact ⟨hk.heap h.res (heap_lt h.res) (fun hm => by simp only [List.mem_cons, List.not_mem_nil, or_false] at hm; omega), hg, h.kept2 hk (fun i hi => by simp only [List.mem_cons, List.not_mem_nil, or_false] at hi; omega), h.low⟩
theorem TB.grown (h : TB w gr g2 g4 lo hi y z W) {row : Option Nat} (hg : W.grownBy W' row) (h2 : some g2 ≠ row) (h4 : some g4 ≠ row) (hl : ∀ k, row = some k → w.heap.size ≤ k ∨ k = gr) : TB w gr g2 g4 lo hi y z W' :=
  ⟨blk_grown h.res hg h2, blk_grown h.tab hg h4, h.kept.trans (Kept.of_grown hg h.kept.size (fun k e => (hl k e).imp id (fun e2 => by simp [e2]))), h.low⟩
theorem TB.reader (h : TB w gr g2 g4 lo hi y z W) (hg : W.grownBy W' (some gr)) : TB w gr g2 g4 lo hi y z W' := by
  have hlow := h.low
  exact h.grown hg (fun e => by cases e; omega) (fun e => by cases e; omega) (fun k e => by cases e; exact .inr rfl)
theorem TB.put2 (h : TB w gr g2 g4 lo hi y z W) (v : Value) : TB w gr g2 g4 lo hi v z (W.setCell ⟨g4, 2, none⟩ v) :=
  ⟨blk_grown h.res (gset W ⟨g4, 2, none⟩ v) (fun e => h.low.2.2.1 (by cases e; rfl)), blk_set h.tab 2 v, h.kept.trans (Kept.of_grown (gset W ⟨g4, 2, none⟩ v) h.kept.size (fun k e => by cases e; exact .inl h.low.2.1)), h.low⟩
theorem TB.put3 (h : TB w gr g2 g4 lo hi y z W) (v : Value) : TB w gr g2 g4 lo hi y v (W.setCell ⟨g4, 3, none⟩ v) :=
  ⟨blk_grown h.res (gset W ⟨g4, 3, none⟩ v) (fun e => h.low.2.2.1 (by cases e; rfl)), blk_set h.tab 3 v, h.kept.trans (Kept.of_grown (gset W ⟨g4, 3, none⟩ v) h.kept.size (fun k e => by cases e; exact .inl h.low.2.1)), h.low⟩
end
theorem Kept.own2 {α : Type} {f : α → List Value} {k : Nat} {e : TypeId} {b0 gr g : Nat} {w W : World} {v : Value} {l : List α} {C C2 : Array Value} {t t2 : TypeId} {fr fr2 : Nat × Nat} (h : Kept w.heap.size [gr, g] w W) (ho : OwnR f k e b0 w v l) (hr : w.heap[gr]? = some (.cells C t fr)) (hne : e ≠ t) (hg : v.ownBlock ≠ some g) : OwnR f k e b0 W v l :=
  h.ownR ho (fun i hi => ⟨ho.lt i hi, fun hm => by
    simp only [List.mem_cons, List.not_mem_nil, or_false] at hm
    rcases hm with rfl | rfl
    · exact ho.ne_blk hr hne hi
    · exact hg hi⟩)
theorem shape2 {vs : List Int} (h : vs.length ≤ 2) (y z : Value) : ∃ lo hi : Int, (vs.map iv ++ [Value.int .i64 0, .int .i64 0, y, z].drop vs.length).toArray = #[.int .i64 lo, .int .i64 hi, y, z] := by
  match vs, h with
  | [], _ => exact ⟨0, 0, rfl⟩
  | [a], _ => exact ⟨a, 0, rfl⟩
  | [a, c], _ => exact ⟨a, c, rfl⟩
set_option maxHeartbeats 40000000 in
set_option maxRecDepth 100000 in
theorem cfTable_any (gr : Nat) (x : Value) (b : List UInt8) (p : Int) (w : World) (hx : St [gr] w (fun W => InB W x b)) (hb : w.heap[gr]? = some (.cells #[x, .int .i64 p] 122 (0, 0))) (hl : b.length ≤ 1000000) :
    Calls Try.prog 76 #[.pointer (some ⟨gr, 0, none⟩)] w (TabRPost gr x (tabR b p) w) := by
  have HX := Lib.hid hx
  have HB := Lib.hid hb
  have hgr := heap_lt hb
  clear hx hb
  go_enter Try.func76, Try.ntmps76
  go_upto_region 2 with fail
  obtain ⟨W, hW, hE, hG2, hG4⟩ : ∃ W, W = (w.alloc (.cells #[.int .i64 0, .int .i64 0, .slice none 0 0, .slice none 0 0] 27)).alloc (.cells #[.int .i64 0, .int .i64 0, .slice none 0 0, .slice none 0 0] 27) ∧ Ext w W ∧ W.heap[w.heap.size]? = some (.cells #[.int .i64 0, .int .i64 0, .slice none 0 0, .slice none 0 0] 27 (0, 0)) ∧ W.heap[w.heap.size + 1]? = some (.cells #[.int .i64 0, .int .i64 0, .slice none 0 0, .slice none 0 0] 27 (0, 0)) := ⟨_, rfl, ((Ext.refl w).alloc _).alloc _, ((Ext.refl _).alloc _).heap (heap_alloc_new w _), by have := heap_alloc_new (w.alloc (.cells #[.int .i64 0, .int .i64 0, .slice none 0 0, .slice none 0 0] 27)) (.cells #[.int .i64 0, .int .i64 0, .slice none 0 0, .slice none 0 0] 27); simpa using this⟩
  rw [← hW]
  clear hW
  obtain ⟨g2, hg2⟩ : ∃ g, g = w.heap.size := ⟨_, rfl⟩
  obtain ⟨g4, hg4⟩ : ∃ g, g = w.heap.size + 1 := ⟨_, rfl⟩
  have hlow : w.heap.size ≤ g2 ∧ w.heap.size ≤ g4 ∧ g2 ≠ g4 ∧ gr < w.heap.size := by omega
  rw [← hg4] at hG4 ⊢
  rw [← hg2] at hG2 ⊢
  clear hg2 hg4
  have hT0 : TB w gr g2 g4 0 0 (.slice none 0 0) (.slice none 0 0) W := ⟨hG2, hG4, Kept.of_ext hE (Nat.le_refl _), hlow⟩
  have hrd0 := hE.heap HB.out
  have HL := Lib.hid hlow
  have hgl : gr ≠ g4 := by omega
  clear hG2 hG4 hE hlow
  have hA := (Ext.refl W).alloc (.cells #[.pointer (some ⟨g4, 0, none⟩), .pointer (some ⟨g4, 1, none⟩)] 165)
  have hBN := heap_alloc_new W (.cells #[.pointer (some ⟨g4, 0, none⟩), .pointer (some ⟨g4, 1, none⟩)] 165)
  go_wp2_with fail
  have hTA := hT0.ext hA
  have hnum := cfNumbers_any gr g4 W.heap.size 2 x b p 27 [.int .i64 0, .int .i64 0, .slice none 0 0, .slice none 0 0] (W.alloc (.cells #[.pointer (some ⟨g4, 0, none⟩), .pointer (some ⟨g4, 1, none⟩)] 165)) (HX.out.mono hTA.kept (fun i hi => by have := HL.out; simp only [List.mem_cons, List.not_mem_nil, or_false] at hi ⊢; omega)) (hA.heap hrd0) hTA.tab (by decide) (by decide) (by simp) (by omega) hBN hl
  clear hBN hA hT0 hrd0
  rcases htr : numsR b 2 p with e | ⟨vs, p1⟩
  · rw [htr] at hnum
    refine hnum.mono ?_
    rintro en w2 ⟨rfl, he0, ⟨vs, hvl, hg⟩, hk⟩
    obtain ⟨lo, hi, hsh⟩ := shape2 hvl (.slice none 0 0) (.slice none 0 0)
    rw [hsh] at hg
    have hT2 := hTA.nums hk hg
    have HPF : Hid (tabR b p = .error e) := Lib.hid (by unfold tabR; rw [htr])
    have e0 : (e != 0) = true := by simpa using he0
    have HE0 := Lib.hid he0
    clear htr hnum he0 hvl hg hk hTA hsh
    have hldt := run_loadAt_blk (P := Try.prog) w2 g4 27 27 _ (0, 0) _ hT2.tab Try.underlying27 rfl ft_size
    have hstt := run_storeAt_blk (P := Try.prog) w2 g2 27 27 _ #[.int .i64 lo, .int .i64 hi, .slice none 0 0, .slice none 0 0] hT2.res ft_size rfl (by simp [Value.oneCell'])
    go_wp2_with first | refine wpList_load_run rfl 27 (.tmp 4) rfl _ _ rfl hldt ?_ | refine wpList_store_run rfl 27 (.tmp 2) (.tmp 20) rfl _ _ _ rfl rfl hstt ?_
    have hZ9 := setRow_heap w2 g2 _ #[.int .i64 lo, .int .i64 hi, .slice none 0 0, .slice none 0 0] _ _ hT2.res
    have hk9 := hT2.kept.trans (Kept.of_grown (gsetRow w2 g2 #[.int .i64 lo, .int .i64 hi, .slice none 0 0, .slice none 0 0]) hT2.kept.size (fun k e => by cases e; exact .inl hT2.low.1))
    clear hldt hstt
    generalize w2.setRow g2 #[.int .i64 lo, .int .i64 hi, .slice none 0 0, .slice none 0 0] = w9 at *
    obtain ⟨k0, k1, k2, k3⟩ := blkR hZ9
    refine bodyPost_ret (v := .tuple #[.agg #[.int .i64 lo, .int .i64 hi, .slice none 0 0, .slice none 0 0], .int .i64 e]) (by simp [results, Try.results76, go_sem, k0, k1, k2, k3]) rfl ?_
    rw [HPF.out]
    exact ⟨⟨_, _, _, _, _, _, _, _, rfl⟩, HE0.out, hk9⟩
  rw [htr] at hnum
  obtain ⟨hvl, hvr⟩ := numsR_ok htr
  obtain ⟨lo, hi, rfl⟩ := list2 hvl
  refine hnum.mono ?_
  rintro en w2 ⟨rfl, hg, hrd, hk⟩
  have hT2 := hTA.nums hk (lo' := lo) (hi' := hi) hg
  have hlor := hvr lo (by simp)
  have HTR := Lib.hid htr
  clear htr hnum hg hk hTA hvl hvr
  go_wp2_with fail
  have hcnt := cfCount_any gr x b p1 8000 w2 (HX.out w2 hT2.kept) hrd hl
  rcases hct : cntR 8000 b p1 with e | ⟨cn, p2⟩
  · rw [hct] at hcnt
    refine hcnt.mono ?_
    rintro en w3 ⟨⟨v3, rfl⟩, he0, hg3⟩
    have hT3 := hT2.reader hg3
    have HPF : Hid (tabR b p = .error e) := Lib.hid (by unfold tabR; rw [HTR.out]; simp only [hct])
    have e0 : (e != 0) = true := by simpa using he0
    have HE0 := Lib.hid he0
    clear hct hcnt he0 hg3 hT2 hrd
    have hldt := run_loadAt_blk (P := Try.prog) w3 g4 27 27 _ (0, 0) _ hT3.tab Try.underlying27 rfl ft_size
    have hstt := run_storeAt_blk (P := Try.prog) w3 g2 27 27 _ #[.int .i64 lo, .int .i64 hi, .slice none 0 0, .slice none 0 0] hT3.res ft_size rfl (by simp [Value.oneCell'])
    go_wp2_with first | refine wpList_load_run rfl 27 (.tmp 4) rfl _ _ rfl hldt ?_ | refine wpList_store_run rfl 27 (.tmp 2) (.tmp 29) rfl _ _ _ rfl rfl hstt ?_
    have hZ9 := setRow_heap w3 g2 _ #[.int .i64 lo, .int .i64 hi, .slice none 0 0, .slice none 0 0] _ _ hT3.res
    have hk9 := hT3.kept.trans (Kept.of_grown (gsetRow w3 g2 #[.int .i64 lo, .int .i64 hi, .slice none 0 0, .slice none 0 0]) hT3.kept.size (fun k e => by cases e; exact .inl hT3.low.1))
    clear hldt hstt
    generalize w3.setRow g2 #[.int .i64 lo, .int .i64 hi, .slice none 0 0, .slice none 0 0] = w9 at *
    obtain ⟨k0, k1, k2, k3⟩ := blkR hZ9
    refine bodyPost_ret (v := .tuple #[.agg #[.int .i64 lo, .int .i64 hi, .slice none 0 0, .slice none 0 0], .int .i64 e]) (by simp [results, Try.results76, go_sem, k0, k1, k2, k3]) rfl ?_
    rw [HPF.out]
    exact ⟨⟨_, _, _, _, _, _, _, _, rfl⟩, HE0.out, hk9⟩
  rw [hct] at hcnt
  obtain ⟨hcn0, hcn1, hcn2⟩ := cntR_ok hct
  obtain ⟨n, rfl⟩ : ∃ n : Nat, cn = (n : Int) := ⟨cn.toNat, by omega⟩
  have HCT := Lib.hid hct
  refine hcnt.mono ?_
  rintro en w3 ⟨rfl, hrd3, hg3⟩
  have hT3 := hT2.reader hg3
  clear hct hcnt hg3 hT2 hrd hcn0 hcn2
  obtain ⟨r0, r1, r2, r3⟩ := blkR hT3.tab
  go_wp2_with fail
  clear r0 r1 r2 r3
  go_loopw [8, 34] (fun li i wr => ∃ (k : Nat) (ss : List Stp) (last q : Int) (y : Value), k ≤ n ∧ i = .int .i64 (k : Int) ∧ li = .int .i64 last ∧ (0 ≤ last ∧ last ≤ 1099511627776 * (k + 1)) ∧ Hid (ss.length = k) ∧ Hid (stepsR b n lo p2 = preR ss (stepsR b (n - k) last q)) ∧ TB w gr g2 g4 lo hi y (.slice none 0 0) wr ∧ OwnR stpCells 2 78 w.heap.size wr y ss ∧ wr.heap[gr]? = some (.cells #[x, .int .i64 q] 122 (0, 0))) (fun _ i _ => n - (intOf i).toNat)
  case atStart => exact ⟨0, [], lo, p2, _, by omega, rfl, rfl, by omega, Lib.hid rfl, Lib.hid (by rw [preR_nil, Nat.sub_zero]), hT3, OwnR.nil _, hrd3⟩
  case round =>
    clear hT3 hrd3
    obtain ⟨k, ss, last, q, y, hk, rfl, rfl, hla, HK, HS, hT, hown, hrd⟩ := hrel
    obtain ⟨wz, rfl⟩ : ∃ wz : World, wz = wr := ⟨_, rfl⟩
    obtain ⟨AY, cY, hyv, _, _⟩ := hown.inR
    rw [HK.out] at hyv
    subst hyv
    by_cases hlt : k < n
    · have hik : (k : Int) < (n : Int) := by omega
      have HSN : Hid (n - k = (n - (k + 1)) + 1) := Lib.hid (by omega)
      go_upto_region 12 with fail
      have hXa := (Ext.refl wz).alloc (.cells #[.int .i64 0, .int .i64 0] 78)
      have hG9 := heap_alloc_new wz (.cells #[.int .i64 0, .int .i64 0] 78)
      obtain ⟨g9, hg9⟩ : ∃ g, g = wz.heap.size := ⟨_, rfl⟩
      have hn92 : g9 ≠ g2 := by have := heap_lt hT.res; omega
      have hn94 : g9 ≠ g4 := by have := heap_lt hT.tab; omega
      have hl9 : w.heap.size ≤ g9 := by rw [hg9]; exact hT.kept.size
      have hno9 : (Value.slice AY k cY).ownBlock ≠ some g9 := fun e => by have := hown.lt g9 e; omega
      rw [← hg9] at hG9 ⊢
      have hTa := hT.ext hXa
      have hoa := hown.ext hXa
      have hra := hXa.heap hrd
      clear hXa hg9 hT hown hrd
      generalize wz.alloc (.cells #[.int .i64 0, .int .i64 0] 78) = wa at *
      have hA := (Ext.refl wa).alloc (.cells #[.pointer (some ⟨g9, 0, none⟩), .pointer (some ⟨g9, 1, none⟩)] 165)
      have hBN := heap_alloc_new wa (.cells #[.pointer (some ⟨g9, 0, none⟩), .pointer (some ⟨g9, 1, none⟩)] 165)
      go_wp2_with fail
      have hTA := hTa.ext hA
      have hoA := hoa.ext hA
      have hrA := hA.heap hra
      have hnum := cfNumbers_any gr g9 wa.heap.size 2 x b q 78 [.int .i64 0, .int .i64 0] (wa.alloc (.cells #[.pointer (some ⟨g9, 0, none⟩), .pointer (some ⟨g9, 1, none⟩)] 165)) (HX.out.mono hTA.kept (fun i hi => by simp only [List.mem_cons, List.not_mem_nil, or_false] at hi ⊢; omega)) hrA (hA.heap hG9) (by decide) (by decide) (by simp) (by omega) hBN hl
      clear hBN hA hTa hoa hra hG9
      rcases htr : numsR b 2 q with e | ⟨vs, q2⟩
      · rw [htr] at hnum
        refine hnum.mono ?_
        rintro en w2 ⟨rfl, he0, _, hk2⟩
        have hT2 := hTA.aside hk2 hn92 hn94 hl9
        have HPF : Hid (tabR b p = .error e) := Lib.hid (by
          unfold tabR
          rw [HTR.out]
          simp only [HCT.out, Int.toNat_natCast, HS.out, HSN.out]
          unfold stepsR
          simp only [htr]
          rfl)
        have e0 : (e != 0) = true := by simpa using he0
        have HE0 := Lib.hid he0
        clear htr hnum he0 hk2 hTA hoA hrA
        have hldt := run_loadAt_blk (P := Try.prog) w2 g4 27 27 _ (0, 0) _ hT2.tab Try.underlying27 rfl ft_size
        have hstt := run_storeAt_blk (P := Try.prog) w2 g2 27 27 _ #[.int .i64 lo, .int .i64 hi, .slice AY k cY, .slice none 0 0] hT2.res ft_size rfl (by simp [Value.oneCell'])
        go_wp2_with first | refine wpList_load_run rfl 27 (.tmp 4) rfl _ _ rfl hldt ?_ | refine wpList_store_run rfl 27 (.tmp 2) (.tmp 43) rfl _ _ _ rfl rfl hstt ?_
        have hZ9 := setRow_heap w2 g2 _ #[.int .i64 lo, .int .i64 hi, .slice AY k cY, .slice none 0 0] _ _ hT2.res
        have hk9 := hT2.kept.trans (Kept.of_grown (gsetRow w2 g2 #[.int .i64 lo, .int .i64 hi, .slice AY k cY, .slice none 0 0]) hT2.kept.size (fun k e => by cases e; exact .inl hT2.low.1))
        clear hldt hstt
        generalize w2.setRow g2 #[.int .i64 lo, .int .i64 hi, .slice AY k cY, .slice none 0 0] = w9 at *
        obtain ⟨k0, k1, k2, k3⟩ := blkR hZ9
        refine bodyPost_ret (v := .tuple #[.agg #[.int .i64 lo, .int .i64 hi, .slice AY k cY, .slice none 0 0], .int .i64 e]) (by simp [results, Try.results76, go_sem, k0, k1, k2, k3]) rfl ?_
        rw [HPF.out]
        exact ⟨⟨_, _, _, _, _, _, _, _, rfl⟩, HE0.out, hk9⟩
      rw [htr] at hnum
      obtain ⟨hvl, hvr⟩ := numsR_ok htr
      obtain ⟨a, o, rfl⟩ := list2 hvl
      refine hnum.mono ?_
      rintro en w2 ⟨rfl, hg9', hrd2, hk2⟩
      have hT2 := hTA.aside hk2 hn92 hn94 hl9
      have ho2 := Kept.own2 (C2 := #[]) (t2 := 78) (fr2 := (0, 0)) hk2 hoA hrA (by decide) hno9
      have har := hvr a (by simp)
      have hG9 : w2.heap[g9]? = some (.cells #[.int .i64 a, .int .i64 o] 78 (0, 0)) := hg9'
      obtain ⟨la2, hla2, hla2e⟩ : ∃ l2 : Int, IntKind.i64.wrap (a + last) = l2 ∧ l2 = a + last := ⟨a + last, by rw [IntKind.wrap_i64]; omega, rfl⟩
      have HS2 : Hid (stepsR b n lo p2 = preR (ss ++ [⟨la2, o⟩]) (stepsR b (n - (k + 1)) la2 q2)) := Lib.hid (by
        rw [HS.out, HSN.out]
        conv => lhs; unfold stepsR
        simp only [htr]
        rw [preR_preR, hla2e])
      have hlb2 : 0 ≤ la2 ∧ la2 ≤ 1099511627776 * ((k + 1 : Nat) + 1) := by omega
      have r0 := blk_at hG9 0 _ rfl
      have f0 := blk_free hG9 0
      have hlt0 := heap_lt hG9
      clear htr hnum hvl hvr hk2 hTA hoA hrA hg9' hla2e har
      go_upto_region 16 with fail
      have s9 := gset w2 ⟨g9, 0, none⟩ (.int .i64 la2)
      have hG9n : (w2.setCell ⟨g9, 0, none⟩ (.int .i64 la2)).heap[g9]? = some (.cells #[.int .i64 la2, .int .i64 o] 78 (0, 0)) := blk_set hG9 0 _
      have hT3 := hT2.grown s9 (fun e => hn92 (by cases e; rfl)) (fun e => hn94 (by cases e; rfl)) (fun k e => by cases e; exact .inl hl9)
      have ho3 := ho2.kept s9 (.inr hno9)
      have hrd3 := blk_grown hrd2 s9 (fun e => blk_ne hrd2 hG9 (by decide) (by cases e; rfl))
      clear s9 hG9 hT2 ho2 hrd2 r0 f0 hlt0
      generalize w2.setCell ⟨g9, 0, none⟩ (.int .i64 la2) = w3 at *
      obtain ⟨r0, r1⟩ := blk2 hG9n
      obtain ⟨t0, t1, t2, t3⟩ := blkR hT3.tab
      have hlds := run_loadAt_blk (P := Try.prog) w3 g9 78 78 _ (0, 0) _ hG9n Try.underlying78 rfl sp_size
      have hA5 := (Ext.refl w3).alloc (.cells #[.int .i64 la2, .int .i64 o] 78)
      have hin5 : InR stpCells (w3.alloc (.cells #[.int .i64 la2, .int .i64 o] 78)) (.slice (some ⟨w3.heap.size, 0, none⟩) 1 1) [⟨la2, o⟩] := (OwnR_one (f := stpCells) w3 ⟨la2, o⟩ rfl 78).inR
      have hsz5 := Nat.le_trans hT3.kept.size hA5.size
      have ho5 := ho3.ext hA5
      have hk8 : k < 8000 := by omega
      go_upto_region 17 with fail
      go_wp2_with first | refine wpList_load_run rfl 78 (.tmp 9) rfl _ _ rfl hlds ?_ | refine wpList_rowOne elem_sp rfl (.tmp 54) rfl #[.int .i64 la2, .int .i64 o] rfl rfl (by omega) ?_ | (at_builtin; go_must (refine wpList_appendR elem_sp rfl (.tmp 53) (.tmp 55) rfl w.heap.size _ ss rfl ho5 _ [⟨la2, o⟩] rfl hin5 (fun _ _ => rfl) (fun b hb u hu => by simp only [List.mem_singleton] at hb; subst hb; simp only [stpCells, List.mem_cons, List.not_mem_nil, or_false] at hu; rcases hu with rfl | rfl <;> rfl) (by have := HK.out; simp only [List.length_cons, List.length_nil]; omega) (by omega) hsz5 (Hold.out ?_)))
      refine Hold.mk fun v9 w9 ho9 hg9 => ?_
      have hT5 := hT3.ext hA5
      have hT9 := hT5.grown hg9.grown (ho5.ne_blk hT5.res (by decide)).symm (ho5.ne_blk hT5.tab (by decide)).symm (fun k e => .inl (ho5.ge k e))
      have hrd9 := blk_grown (hA5.heap hrd3) hg9.grown (ho5.ne_blk (hA5.heap hrd3) (by decide)).symm
      obtain ⟨A9, c9, hv9, _, _⟩ := ho9.inR
      rw [List.length_append, HK.out, List.length_singleton] at hv9
      subst hv9
      have HK9 : Hid ((ss ++ [(⟨la2, o⟩ : Stp)]).length = k + 1) := Lib.hid (by rw [List.length_append, HK.out]; rfl)
      have f2 := blk_free hT9.tab 2
      have u2 := blk_at hT9.tab 2 _ rfl
      have hlt9 := heap_lt hT9.tab
      clear hlds hA5 hin5 hsz5 ho5 hT5 hT3 ho3 hrd3 hg9 r0 r1 t0 t1 t2 t3 hG9n
      go_upto_region 18 with fail
      have hTn := hT9.put2 (.slice A9 (k + 1) c9)
      have s4 := gset w9 ⟨g4, 2, none⟩ (.slice A9 (k + 1) c9)
      have hon := ho9.kept s4 (.inr (ho9.ne_blk hT9.tab (by decide)))
      have hrn := blk_grown hrd9 s4 (fun e => hgl (by cases e; rfl))
      clear s4 hT9 ho9 hrd9 f2 u2 hlt9
      generalize w9.setCell ⟨g4, 2, none⟩ (.slice A9 (k + 1) c9) = wn at *
      go_wp2_with fail
      go_roundw
      case rel => exact ⟨k + 1, ss ++ [⟨la2, o⟩], la2, q2, _, by omega, by first | (with_reducible rfl) | go_num, rfl, by omega, HK9, HS2, hTn, hon, hrn⟩
      case measure => simp [intOf]; omega
    · have hik : ¬ (k : Int) < (n : Int) := by omega
      have HSS : Hid (stepsR b n lo p2 = .ok (ss, q)) := Lib.hid (by
        have e : n - k = 0 := by omega
        rw [HS.out, e]
        simp [stepsR, preR])
      clear HS
      go_wp2_with fail
      have hcnt := cfCount_any gr x b q 8000 wz (HX.out wz hT.kept) hrd hl
      rcases hct : cntR 8000 b q with e | ⟨cm, p4⟩
      · rw [hct] at hcnt
        refine hcnt.mono ?_
        rintro en w3 ⟨⟨v3, rfl⟩, he0, hg3⟩
        have hT3 := hT.reader hg3
        have HPF : Hid (tabR b p = .error e) := Lib.hid (by unfold tabR; rw [HTR.out]; simp only [HCT.out, Int.toNat_natCast, HSS.out, hct])
        have e0 : (e != 0) = true := by simpa using he0
        have HE0 := Lib.hid he0
        clear hct hcnt he0 hg3 hT hrd hown
        have hldt := run_loadAt_blk (P := Try.prog) w3 g4 27 27 _ (0, 0) _ hT3.tab Try.underlying27 rfl ft_size
        have hstt := run_storeAt_blk (P := Try.prog) w3 g2 27 27 _ #[.int .i64 lo, .int .i64 hi, .slice AY k cY, .slice none 0 0] hT3.res ft_size rfl (by simp [Value.oneCell'])
        go_wp2_with first | refine wpList_load_run rfl 27 (.tmp 4) rfl _ _ rfl hldt ?_ | refine wpList_store_run rfl 27 (.tmp 2) (.tmp 66) rfl _ _ _ rfl rfl hstt ?_
        have hZ9 := setRow_heap w3 g2 _ #[.int .i64 lo, .int .i64 hi, .slice AY k cY, .slice none 0 0] _ _ hT3.res
        have hk9 := hT3.kept.trans (Kept.of_grown (gsetRow w3 g2 #[.int .i64 lo, .int .i64 hi, .slice AY k cY, .slice none 0 0]) hT3.kept.size (fun k e => by cases e; exact .inl hT3.low.1))
        clear hldt hstt
        generalize w3.setRow g2 #[.int .i64 lo, .int .i64 hi, .slice AY k cY, .slice none 0 0] = w9 at *
        obtain ⟨k0, k1, k2, k3⟩ := blkR hZ9
        refine bodyPost_ret (v := .tuple #[.agg #[.int .i64 lo, .int .i64 hi, .slice AY k cY, .slice none 0 0], .int .i64 e]) (by simp [results, Try.results76, go_sem, k0, k1, k2, k3]) rfl ?_
        rw [HPF.out]
        exact ⟨⟨_, _, _, _, _, _, _, _, rfl⟩, HE0.out, hk9⟩
      rw [hct] at hcnt
      obtain ⟨hcn0, hcm1, hcn2⟩ := cntR_ok hct
      obtain ⟨m, rfl⟩ : ∃ m : Nat, cm = (m : Int) := ⟨cm.toNat, by omega⟩
      have HCM := Lib.hid hct
      refine hcnt.mono ?_
      rintro en w3 ⟨rfl, hrd3, hg3⟩
      have hT3 := hT.reader hg3
      have ho3 := hown.kept hg3 (.inr (hown.ne_blk hrd (by decide)))
      clear hct hcnt hg3 hT hrd hcn0 hcn2 hown
      go_wp2_with fail
      go_loopw [69] (fun i wr => ∃ (j : Nat) (os : List Obj) (r : Int) (z : Value), j ≤ m ∧ i = .int .i64 (j : Int) ∧ Hid (os.length = j) ∧ Hid (objsR b m p4 = preR os (objsR b (m - j) r)) ∧ TB w gr g2 g4 lo hi (.slice AY k cY) z wr ∧ OwnR stpCells 2 78 w.heap.size wr (.slice AY k cY) ss ∧ OwnR objCells 4 83 w.heap.size wr z os ∧ wr.heap[gr]? = some (.cells #[x, .int .i64 r] 122 (0, 0))) (fun i _ => m - (intOf i).toNat)
      case atStart => exact ⟨0, [], p4, _, by omega, rfl, Lib.hid rfl, Lib.hid (by rw [preR_nil, Nat.sub_zero]), hT3, ho3, OwnR.nil _, hrd3⟩
      case round =>
        clear hT3 ho3 hrd3
        obtain ⟨j, os, r, z, hj, rfl, HJ, HO, hT, hown, hobj, hrd⟩ := hrel
        obtain ⟨wq, rfl⟩ : ∃ wq : World, wq = wr := ⟨_, rfl⟩
        obtain ⟨AZ, cZ, hzv, _, _⟩ := hobj.inR
        rw [HJ.out] at hzv
        subst hzv
        by_cases hltj : j < m
        · have hij : (j : Int) < (m : Int) := by omega
          have HSN : Hid (m - j = (m - (j + 1)) + 1) := Lib.hid (by omega)
          go_upto_region 25 with fail
          have hXa := (Ext.refl wq).alloc (.cells #[.int .i64 0, .int .i64 0, .int .i64 0, .int .i64 0] 83)
          have hG9 := heap_alloc_new wq (.cells #[.int .i64 0, .int .i64 0, .int .i64 0, .int .i64 0] 83)
          obtain ⟨g9, hg9⟩ : ∃ g, g = wq.heap.size := ⟨_, rfl⟩
          have hn92 : g9 ≠ g2 := by have := heap_lt hT.res; omega
          have hn94 : g9 ≠ g4 := by have := heap_lt hT.tab; omega
          have hl9 : w.heap.size ≤ g9 := by rw [hg9]; exact hT.kept.size
          have hno9 : (Value.slice AY k cY).ownBlock ≠ some g9 := fun e => by have := hown.lt g9 e; omega
          have hno8 : (Value.slice AZ j cZ).ownBlock ≠ some g9 := fun e => by have := hobj.lt g9 e; omega
          rw [← hg9] at hG9 ⊢
          have hTa := hT.ext hXa
          have hoa := hown.ext hXa
          have hba := hobj.ext hXa
          have hra := hXa.heap hrd
          clear hXa hg9 hT hown hobj hrd
          generalize wq.alloc (.cells #[.int .i64 0, .int .i64 0, .int .i64 0, .int .i64 0] 83) = wa at *
          have hA := (Ext.refl wa).alloc (.cells #[.pointer (some ⟨g9, 0, none⟩), .pointer (some ⟨g9, 1, none⟩), .pointer (some ⟨g9, 2, none⟩), .pointer (some ⟨g9, 3, none⟩)] 165)
          have hBN := heap_alloc_new wa (.cells #[.pointer (some ⟨g9, 0, none⟩), .pointer (some ⟨g9, 1, none⟩), .pointer (some ⟨g9, 2, none⟩), .pointer (some ⟨g9, 3, none⟩)] 165)
          go_wp2_with fail
          have hTA := hTa.ext hA
          have hoA := hoa.ext hA
          have hbA := hba.ext hA
          have hrA := hA.heap hra
          have hnum := cfNumbers_any gr g9 wa.heap.size 4 x b r 83 [.int .i64 0, .int .i64 0, .int .i64 0, .int .i64 0] (wa.alloc (.cells #[.pointer (some ⟨g9, 0, none⟩), .pointer (some ⟨g9, 1, none⟩), .pointer (some ⟨g9, 2, none⟩), .pointer (some ⟨g9, 3, none⟩)] 165)) (HX.out.mono hTA.kept (fun i hi => by simp only [List.mem_cons, List.not_mem_nil, or_false] at hi ⊢; omega)) hrA (hA.heap hG9) (by decide) (by decide) (by simp) (by omega) hBN hl
          clear hBN hA hTa hoa hra hba hG9
          rcases htr : numsR b 4 r with e | ⟨vs, r2⟩
          · rw [htr] at hnum
            refine hnum.mono ?_
            rintro en w2 ⟨rfl, he0, _, hk2⟩
            have hT2 := hTA.aside hk2 hn92 hn94 hl9
            have HPF : Hid (tabR b p = .error e) := Lib.hid (by
              unfold tabR
              rw [HTR.out]
              simp only [HCT.out, Int.toNat_natCast, HSS.out, HCM.out, HO.out, HSN.out]
              unfold objsR
              simp only [htr]
              rfl)
            have e0 : (e != 0) = true := by simpa using he0
            have HE0 := Lib.hid he0
            clear htr hnum he0 hk2 hTA hoA hbA hrA
            have hldt := run_loadAt_blk (P := Try.prog) w2 g4 27 27 _ (0, 0) _ hT2.tab Try.underlying27 rfl ft_size
            have hstt := run_storeAt_blk (P := Try.prog) w2 g2 27 27 _ #[.int .i64 lo, .int .i64 hi, .slice AY k cY, .slice AZ j cZ] hT2.res ft_size rfl (by simp [Value.oneCell'])
            go_wp2_with first | refine wpList_load_run rfl 27 (.tmp 4) rfl _ _ rfl hldt ?_ | refine wpList_store_run rfl 27 (.tmp 2) (.tmp 80) rfl _ _ _ rfl rfl hstt ?_
            have hZ9 := setRow_heap w2 g2 _ #[.int .i64 lo, .int .i64 hi, .slice AY k cY, .slice AZ j cZ] _ _ hT2.res
            have hk9 := hT2.kept.trans (Kept.of_grown (gsetRow w2 g2 #[.int .i64 lo, .int .i64 hi, .slice AY k cY, .slice AZ j cZ]) hT2.kept.size (fun k e => by cases e; exact .inl hT2.low.1))
            clear hldt hstt
            generalize w2.setRow g2 #[.int .i64 lo, .int .i64 hi, .slice AY k cY, .slice AZ j cZ] = w9 at *
            obtain ⟨k0, k1, k2, k3⟩ := blkR hZ9
            refine bodyPost_ret (v := .tuple #[.agg #[.int .i64 lo, .int .i64 hi, .slice AY k cY, .slice AZ j cZ], .int .i64 e]) (by simp [results, Try.results76, go_sem, k0, k1, k2, k3]) rfl ?_
            rw [HPF.out]
            exact ⟨⟨_, _, _, _, _, _, _, _, rfl⟩, HE0.out, hk9⟩
          rw [htr] at hnum
          obtain ⟨hvl, hvr⟩ := numsR_ok htr
          obtain ⟨oc, ov, os1, ow, rfl⟩ := list4 hvl
          refine hnum.mono ?_
          rintro en w2 ⟨rfl, hg9', hrd2, hk2⟩
          have hT2 := hTA.aside hk2 hn92 hn94 hl9
          have ho2 := Kept.own2 (C2 := #[]) (t2 := 78) (fr2 := (0, 0)) hk2 hoA hrA (by decide) hno9
          have hb2 := Kept.own2 (C2 := #[]) (t2 := 78) (fr2 := (0, 0)) hk2 hbA hrA (by decide) hno8
          have hG9 : w2.heap[g9]? = some (.cells #[.int .i64 oc, .int .i64 ov, .int .i64 os1, .int .i64 ow] 83 (0, 0)) := hg9'
          have HO2 : Hid (objsR b m p4 = preR (os ++ [⟨oc, ov, os1, ow⟩]) (objsR b (m - (j + 1)) r2)) := Lib.hid (by
            rw [HO.out, HSN.out]
            conv => lhs; unfold objsR
            simp only [htr]
            rw [preR_preR])
          clear htr hnum hvl hvr hk2 hTA hoA hbA hrA hg9'
          obtain ⟨t0, t1, t2, t3⟩ := blkR hT2.tab
          have hlds := run_loadAt_blk (P := Try.prog) w2 g9 83 83 _ (0, 0) _ hG9 Try.underlying83 rfl ob_size
          have hA5 := (Ext.refl w2).alloc (.cells #[.int .i64 oc, .int .i64 ov, .int .i64 os1, .int .i64 ow] 83)
          have hin5 : InR objCells (w2.alloc (.cells #[.int .i64 oc, .int .i64 ov, .int .i64 os1, .int .i64 ow] 83)) (.slice (some ⟨w2.heap.size, 0, none⟩) 1 1) [⟨oc, ov, os1, ow⟩] := (OwnR_one (f := objCells) w2 ⟨oc, ov, os1, ow⟩ rfl 83).inR
          have hsz5 := Nat.le_trans hT2.kept.size hA5.size
          have ho5 := ho2.ext hA5
          have hb5 := hb2.ext hA5
          have hj8 : j < 8000 := by omega
          go_upto_region 28 with fail
          go_wp2_with first | refine wpList_load_run rfl 83 (.tmp 11) rfl _ _ rfl hlds ?_ | refine wpList_rowOne elem_ob rfl (.tmp 84) rfl #[.int .i64 oc, .int .i64 ov, .int .i64 os1, .int .i64 ow] rfl rfl (by omega) ?_ | (at_builtin; go_must (refine wpList_appendR elem_ob rfl (.tmp 83) (.tmp 85) rfl w.heap.size _ os rfl hb5 _ [⟨oc, ov, os1, ow⟩] rfl hin5 (fun _ _ => rfl) (fun b hb u hu => by simp only [List.mem_singleton] at hb; subst hb; simp only [objCells, List.mem_cons, List.not_mem_nil, or_false] at hu; rcases hu with rfl | rfl | rfl | rfl <;> rfl) (by have := HJ.out; simp only [List.length_cons, List.length_nil]; omega) (by omega) hsz5 (Hold.out ?_)))
          refine Hold.mk fun v9 w9 hb9 hg9 => ?_
          have hT5 := hT2.ext hA5
          have hT9 := hT5.grown hg9.grown (hb5.ne_blk hT5.res (by decide)).symm (hb5.ne_blk hT5.tab (by decide)).symm (fun k e => .inl (hb5.ge k e))
          have ho9 := ho5.kept hg9.grown (row_ne ho5 hb5 (by decide))
          have hrd9 := blk_grown (hA5.heap hrd2) hg9.grown (hb5.ne_blk (hA5.heap hrd2) (by decide)).symm
          obtain ⟨A9, c9, hv9, _, _⟩ := hb9.inR
          rw [List.length_append, HJ.out, List.length_singleton] at hv9
          subst hv9
          have HJ9 : Hid ((os ++ [(⟨oc, ov, os1, ow⟩ : Obj)]).length = j + 1) := Lib.hid (by rw [List.length_append, HJ.out]; rfl)
          have f2 := blk_free hT9.tab 3
          have u2 := blk_at hT9.tab 3 _ rfl
          have hlt9 := heap_lt hT9.tab
          clear hlds hA5 hin5 hsz5 ho5 hb5 hT5 hT2 ho2 hb2 hrd2 hg9 t0 t1 t2 t3 hG9
          go_upto_region 29 with fail
          have hTn := hT9.put3 (.slice A9 (j + 1) c9)
          have s4 := gset w9 ⟨g4, 3, none⟩ (.slice A9 (j + 1) c9)
          have hon := ho9.kept s4 (.inr (ho9.ne_blk hT9.tab (by decide)))
          have hbn := hb9.kept s4 (.inr (hb9.ne_blk hT9.tab (by decide)))
          have hrn := blk_grown hrd9 s4 (fun e => hgl (by cases e; rfl))
          clear s4 hT9 ho9 hb9 hrd9 f2 u2 hlt9
          generalize w9.setCell ⟨g4, 3, none⟩ (.slice A9 (j + 1) c9) = wn at *
          go_wp2_with fail
          go_roundw
          case rel => exact ⟨j + 1, os ++ [⟨oc, ov, os1, ow⟩], r2, _, by omega, by first | (with_reducible rfl) | go_num, HJ9, HO2, hTn, hon, hbn, hrn⟩
          case measure => simp [intOf]; omega
        · have hij : ¬ (j : Int) < (m : Int) := by omega
          have HPF : Hid (tabR b p = .ok (⟨lo, hi, ss, os⟩, r)) := Lib.hid (by
            have e : m - j = 0 := by omega
            have h1 : objsR b m p4 = .ok (os, r) := by rw [HO.out, e]; simp [objsR, preR]
            unfold tabR
            rw [HTR.out]
            simp only [HCT.out, Int.toNat_natCast, HSS.out, HCM.out, h1])
          clear HO
          have hldt := run_loadAt_blk (P := Try.prog) wq g4 27 27 _ (0, 0) _ hT.tab Try.underlying27 rfl ft_size
          have hstt := run_storeAt_blk (P := Try.prog) wq g2 27 27 _ #[.int .i64 lo, .int .i64 hi, .slice AY k cY, .slice AZ j cZ] hT.res ft_size rfl (by simp [Value.oneCell'])
          go_wp2_with first | refine wpList_load_run rfl 27 (.tmp 4) rfl _ _ rfl hldt ?_ | refine wpList_store_run rfl 27 (.tmp 2) (.tmp 89) rfl _ _ _ rfl rfl hstt ?_
          have hZ9 := setRow_heap wq g2 _ #[.int .i64 lo, .int .i64 hi, .slice AY k cY, .slice AZ j cZ] _ _ hT.res
          have gs9 := gsetRow wq g2 #[.int .i64 lo, .int .i64 hi, .slice AY k cY, .slice AZ j cZ]
          have hrd9 := blk_grown hrd gs9 (fun e => blk_ne hrd hT.res (by decide) (by cases e; rfl))
          have hown9 := hown.kept gs9 (.inr (hown.ne_blk hT.res (by decide)))
          have hobj9 := hobj.kept gs9 (.inr (hobj.ne_blk hT.res (by decide)))
          have hk9 := hT.kept.trans (Kept.of_grown gs9 hT.kept.size (fun k e => by cases e; exact .inl hT.low.1))
          clear hldt hstt gs9 hT
          generalize wq.setRow g2 #[.int .i64 lo, .int .i64 hi, .slice AY k cY, .slice AZ j cZ] = w9 at *
          obtain ⟨k0, k1, k2, k3⟩ := blkR hZ9
          refine bodyPost_ret (v := .tuple #[.agg #[.int .i64 lo, .int .i64 hi, .slice AY k cY, .slice AZ j cZ], .int .i64 0]) (by simp [results, Try.results76, go_sem, k0, k1, k2, k3]) rfl ?_
          rw [HPF.out]
          exact ⟨_, _, rfl, hown9, hobj9, hrd9, hk9⟩
end Go.Proofs.Ytokmbdeafjmcjaa
