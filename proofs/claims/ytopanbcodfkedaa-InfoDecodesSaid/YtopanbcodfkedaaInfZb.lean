/- The walk of the specification's readShape. -/
import Derived.Test.YtopanbcodfkedaaInfZa
import Derived.Test.YtopanbcodfkedaaInfV
namespace Go.Proofs.Ytopanbcodfkedaa
open Go.RowKit
set_option linter.unusedVariables false
set_option linter.unusedSimpArgs false

def flatP (l : List (Int × Int)) : List Int := l.flatMap (fun x => [x.1, x.2])
theorem flatP_snoc (l : List (Int × Int)) (x : Int × Int) : flatP (l ++ [x]) = flatP l ++ [x.1, x.2] := by simp [flatP]
theorem flatP_len (l : List (Int × Int)) : (flatP l).length = 2 * l.length := by
  induction l with
  | nil => rfl
  | cons x r ih =>
    show (x.1 :: x.2 :: flatP r).length = _
    simp only [List.length_cons]
    omega
theorem flatP_get : ∀ (l : List (Int × Int)) (k : Nat) (h : k < l.length), (flatP l)[2 * k]? = some l[k].1 ∧ (flatP l)[2 * k + 1]? = some l[k].2
  | x :: r, 0, _ => ⟨rfl, rfl⟩
  | x :: r, k + 1, h => by
    have := flatP_get r k (by simpa using h)
    show (x.1 :: x.2 :: flatP r)[2 * (k + 1)]? = _ ∧ (x.1 :: x.2 :: flatP r)[2 * (k + 1) + 1]? = _
    rw [show 2 * (k + 1) = 2 * k + 2 by omega]
    simpa using this
/-- the boxes of a walk beside a reader -/
structure XS (w : World) (gr g4 g5 : Nat) (x : Value) (s : RS18) (C : Array Value) (W : World) : Prop where
  rd : RBlk gr x s W
  b4 : W.heap[g4]? = some (.cells #[.int .i64 0, .int .i64 0, .slice none 0 0] 69 (0, 0))
  b5 : W.heap[g5]? = some (.cells C 69 (0, 0))
  ne : g4 ≠ g5
  low4 : w.heap.size ≤ g4
  low5 : w.heap.size ≤ g5
  kept : Kept w.heap.size [gr] w W
section
variable {w W W' : World} {gr g4 g5 : Nat} {x : Value} {s s' : RS18} {C : Array Value}
theorem RBlk.ne_sh (h : RBlk gr x s W) {g : Nat} {D : Array Value} (hg : W.heap[g]? = some (.cells D 69 (0, 0))) : gr ≠ g := fun e => by
  subst e
  unfold RBlk at h
  rw [h] at hg
  injection hg with hg
  injection hg with _ ht
  exact absurd ht (by decide)
theorem XS.reader (h : XS w gr g4 g5 x s C W) (hb : RBlk gr x s' W') (hg : W.grownBy W' (some gr)) : XS w gr g4 g5 x s' C W' :=
  ⟨hb, blk_grown h.b4 hg (fun e => h.rd.ne_sh h.b4 (by injection e with e; exact e.symm)), blk_grown h.b5 hg (fun e => h.rd.ne_sh h.b5 (by injection e with e; exact e.symm)), h.ne, h.low4, h.low5, h.kept.trans (Kept.of_grown hg h.kept.size (fun k e => by cases e; exact .inr (by simp)))⟩
theorem XS.put (h : XS w gr g4 g5 x s C W) (j : Nat) (v : Value) : XS w gr g4 g5 x s (C.setIfInBounds j v) (W.setCell ⟨g5, j, none⟩ v) :=
  ⟨blk_grown h.rd (gset W ⟨g5, j, none⟩ v) (fun e => h.rd.ne_sh h.b5 (by injection e)), blk_grown h.b4 (gset W ⟨g5, j, none⟩ v) (fun e => h.ne (by injection e)), blk_set h.b5 j v, h.ne, h.low4, h.low5, h.kept.trans (Kept.of_grown (gset W ⟨g5, j, none⟩ v) h.kept.size (fun k e => by cases e; exact .inl h.low5))⟩
theorem XS.ext (h : XS w gr g4 g5 x s C W) (he : Ext W W') : XS w gr g4 g5 x s C W' := ⟨he.heap h.rd, he.heap h.b4, he.heap h.b5, h.ne, h.low4, h.low5, h.kept.trans (Kept.of_ext he h.kept.size)⟩
/-- an append to a row of numbers -/
theorem XS.row (h : XS w gr g4 g5 x s C W) {y y' : Value} {l : List Int} (ho : OwnV iv 3 w.heap.size W y l) (hg : Grew W W' y y') : XS w gr g4 g5 x s C W' :=
  ⟨blk_grown h.rd hg.grown (fun e => ho.ne_blk h.rd (by decide) e.symm), blk_grown h.b4 hg.grown (fun e => ho.ne_blk h.b4 (by decide) e.symm), blk_grown h.b5 hg.grown (fun e => ho.ne_blk h.b5 (by decide) e.symm), h.ne, h.low4, h.low5, h.kept.trans (Kept.of_grown hg.grown h.kept.size (fun k e => .inl (ho.ge k e)))⟩
end
def ShpPst (gr : Nat) (x : Value) (r : PSh × RS18) (w : World) (en : Ending) (w' : World) : Prop := ∃ y, en = .returned (.agg #[.int .i64 r.1.tag, .int .i64 r.1.kids, y]) ∧ OwnV iv 3 w.heap.size w' y (flatP r.1.ps) ∧ RBlk gr x r.2 w' ∧ Kept w.heap.size [gr] w w'
theorem dup_step {ps : List (Int × Int)} {k : Nat} (hk : k < ps.length) (a : Int) (s : RS18) : dupF (ps.take (k + 1)) a s = if ps[k].1 = a then failS 9 (dupF (ps.take k) a s) else dupF (ps.take k) a s := by
  unfold dupF
  rw [List.take_succ_eq_append_getElem hk, List.map_append]
  by_cases h1 : a ∈ (ps.take k).map Prod.fst
  · rw [if_pos h1, if_pos (List.mem_append.2 (.inl h1))]
    split
    · exact (failS_idem 9 s (by decide)).symm
    · rfl
  · rw [if_neg h1]
    by_cases h2 : ps[k].1 = a
    · rw [if_pos h2, if_pos (List.mem_append.2 (.inr (by simp [h2])))]
    · rw [if_neg h2, if_neg (by
        intro h
        rcases List.mem_append.1 h with h | h
        · exact h1 h
        · simp only [List.map_cons, List.map_nil, List.mem_singleton] at h
          exact h2 h.symm)]
set_option maxHeartbeats 40000000 in
set_option maxRecDepth 100000 in
theorem readShape_any (gr : Nat) (x : Value) (b : List UInt8) (n : Nat) (s : RS18) (w : World) (hx : St [gr] w (fun W => InB W x b)) (hb : RBlk gr x s w) (hl : b.length ≤ 1000000) (hn : n ≤ 100000) :
    Calls Try.prog 46 #[.pointer (some ⟨gr, 0, none⟩), .int .i64 (n : Int)] w (ShpPst gr x (shpS b n s) w) := by
  have HX := Lib.hid hx
  have hgr := heap_lt hb
  clear hx
  go_enter Try.func46, Try.ntmps46
  go_upto_region 1 with fail
  have hE0 := (Ext.refl w).alloc (.cells #[.int .i64 0, .int .i64 0, .slice none 0 0] 69)
  have hB0 := heap_alloc_new w (.cells #[.int .i64 0, .int .i64 0, .slice none 0 0] 69)
  have hb0 : RBlk gr x s (w.alloc (.cells #[.int .i64 0, .int .i64 0, .slice none 0 0] 69)) := hE0.heap hb
  obtain ⟨g4, hg4⟩ : ∃ g, g = w.heap.size := ⟨_, rfl⟩
  have hl4 : w.heap.size ≤ g4 := by omega
  rw [← hg4] at hB0 ⊢
  clear hg4
  generalize w.alloc (.cells #[.int .i64 0, .int .i64 0, .slice none 0 0] 69) = W0 at *
  have hk0 : Kept w.heap.size [gr] w W0 := Kept.of_ext hE0 (Nat.le_refl _)
  clear hE0 hb
  obtain ⟨db, hdb⟩ : ∃ d, d = decide ((200 : Int) ≤ (n : Int)) := ⟨_, rfl⟩
  have hdb' := hdb.symm
  have HDB := Lib.hid hdb
  clear hdb
  go_upto_if 12 with fail
  go_cut [] (fun wx => RBlk gr x (shp0 n s) wx ∧ W0.grownBy wx (some gr))
  case first =>
    cases db with
    | true =>
      have h1 : 200 ≤ n := by have := of_decide_eq_true HDB.out.symm; omega
      have HP : Hid (shp0 n s = failS 5 s) := Lib.hid (by unfold shp0; rw [if_pos h1])
      clear h1 hdb'
      go_wp2_with fail
      refine (rFail_any gr x 5 s W0 hb0).mono ?_
      rintro en0 wf ⟨⟨vf, rfl⟩, hbf, hgf⟩
      rw [← HP.out] at hbf
      go_wp2_with fail
      go_meet
      exact ⟨hbf, hgf⟩
    | false =>
      have h1 : ¬ 200 ≤ n := by have := of_decide_eq_false HDB.out.symm; omega
      have HP : Hid (shp0 n s = s) := Lib.hid (by unfold shp0; rw [if_neg h1])
      clear h1 hdb'
      have hb1 := hb0
      rw [← HP.out] at hb1
      go_wp2_with fail
      go_meet
      exact ⟨hb1, ⟨rfl, rfl, rfl, Nat.le_refl _, fun _ _ _ => rfl⟩⟩
  obtain ⟨hb1, hg1⟩ := hcut
  obtain ⟨W1, rfl⟩ : ∃ W : World, W = wc := ⟨_, rfl⟩
  have hk1 : Kept w.heap.size [gr] w W1 := hk0.trans (Kept.of_grown hg1 hk0.size (fun k e => by cases e; exact .inr (by simp)))
  have hB1 := blk_grown hB0 hg1 (fun e => hb0.ne_sh hB0 (by injection e with e; exact e.symm))
  obtain ⟨s0, hs0⟩ : ∃ z, z = shp0 n s := ⟨_, rfl⟩
  rw [← hs0] at hb1
  have HS0 := Lib.hid hs0
  clear hs0 hb0 hB0 hk0 hg1 hdb' HDB
  have hib := HX.out _ hk1
  go_wp2_with fail
  refine (rUint_any gr x b s0 W1 hib hb1 hl).mono ?_
  rintro en0 W2 ⟨rfl, hb2, hg2⟩
  have hk2 : Kept w.heap.size [gr] w W2 := hk1.trans (Kept.of_grown hg2 hk1.size (fun k e => by cases e; exact .inr (by simp)))
  have hB2 := blk_grown hB1 hg2 (fun e => hb1.ne_sh hB1 (by injection e with e; exact e.symm))
  have hrt := uintS_range b s0
  obtain ⟨ut, hut⟩ : ∃ u, u = uintS b s0 := ⟨_, rfl⟩
  rw [← hut] at hb2 hrt ⊢
  have HUT := Lib.hid hut
  obtain ⟨vt, st⟩ := ut
  dsimp only at hb2 hrt ⊢
  clear hib hb1 hB1 hk1 hg2 hut
  obtain ⟨hst, hG5, hXG⟩ := box_new (P := Try.prog) W2 69 #[.int .i64 0, .int .i64 0, .slice none 0 0] #[.int .i64 vt, .int .i64 0, .slice none 0 0] sh_size rfl (by simp [Value.oneCell'])
  go_upto_region 4 with first | refine wpList_store_run rfl 69 (.tmp 5) (.tmp 17) rfl _ _ _ rfl rfl hst ?_
  obtain ⟨g5, hg5⟩ : ∃ g, g = W2.heap.size := ⟨_, rfl⟩
  have hl5 : w.heap.size ≤ g5 := by have := hk2.size; omega
  have hne : g4 ≠ g5 := by have := heap_lt hB2; omega
  have hS : XS w gr g4 g5 x st #[.int .i64 vt, .int .i64 0, .slice none 0 0] ((W2.alloc (.cells #[.int .i64 0, .int .i64 0, .slice none 0 0] 69)).setRow W2.heap.size #[.int .i64 vt, .int .i64 0, .slice none 0 0]) := ⟨hXG.heap hb2, hXG.heap hB2, by rw [hg5]; exact hG5, hne, hl4, hl5, hk2.trans (Kept.of_ext hXG hk2.size)⟩
  rw [← hg5] at hS ⊢
  clear hst hG5 hXG hg5 hl5 hne hk2 hB2 hb2
  generalize (W2.alloc (.cells #[.int .i64 0, .int .i64 0, .slice none 0 0] 69)).setRow g5 #[.int .i64 vt, .int .i64 0, .slice none 0 0] = W3 at *
  try dsimp only [Act.put]
  go_upto_region 4 with fail
  go_cut [32] (fun sl wx => ∃ d : Bool, sl = .bool d ∧ (d = true ↔ st.e = 0 ∧ (vt < 1 ∨ 63 < vt)) ∧ wx = W3)
  case first =>
    obtain ⟨k0, k1, k2⟩ := blk3' hS.rd
    obtain ⟨q0, q1, q2⟩ := blk3 hS.b5
    by_cases h1 : st.e = 0
    case neg =>
      have d1 : (st.e == 0) = false := by simpa using h1
      have d1' : decide (st.e = 0) = false := by simpa using h1
      have HQ : Hid (false = true ↔ st.e = 0 ∧ (vt < 1 ∨ 63 < vt)) := Lib.hid (by simp [h1])
      clear h1
      go_wp2_with fail
      go_meet
      exact ⟨false, rfl, HQ.out, rfl⟩
    have d1 : (st.e == 0) = true := by simpa using h1
    have d1' : decide (st.e = 0) = true := by simpa using h1
    by_cases h2 : vt < 1
    case pos =>
      have d2 : decide (vt < 1) = true := by simpa using h2
      have HQ : Hid (st.e = 0 ∧ (vt < 1 ∨ 63 < vt)) := Lib.hid (by simp [h1, h2])
      clear h1 h2
      go_wp2_with fail
      go_meet
      exact ⟨true, rfl, ⟨fun _ => HQ.out, fun _ => rfl⟩, rfl⟩
    have d2 : decide (vt < 1) = false := by simpa using h2
    by_cases h3 : 63 < vt
    · have d3 : decide (63 < vt) = true := by simpa using h3
      have HQ : Hid (st.e = 0 ∧ (vt < 1 ∨ 63 < vt)) := Lib.hid (by simp [h1, h3])
      clear h1 h2 h3
      go_wp2_with fail
      go_meet
      exact ⟨true, rfl, ⟨fun _ => HQ.out, fun _ => rfl⟩, rfl⟩
    · have d3 : decide (63 < vt) = false := by simpa using h3
      have HQ : Hid (false = true ↔ st.e = 0 ∧ (vt < 1 ∨ 63 < vt)) := Lib.hid (by simp [h2, h3])
      clear h1 h2 h3
      go_wp2_with fail
      go_meet
      exact ⟨false, rfl, HQ.out, rfl⟩
  obtain ⟨d, rfl, hd, hwe⟩ := hcut
  subst hwe
  obtain ⟨W3, rfl⟩ : ∃ W : World, W = wc := ⟨_, rfl⟩
  go_upto_if 32 with fail
  go_cut [] (fun wx => RBlk gr x (tagF (vt, st)) wx ∧ W3.grownBy wx (some gr))
  case first =>
    cases d with
    | true =>
      have HP : Hid (tagF (vt, st) = failS 4 st) := Lib.hid (by unfold tagF; rw [if_pos (hd.1 rfl)])
      clear hd
      have hrb := hS.rd
      go_wp2_with fail
      refine (rFail_any gr x 4 st W3 hrb).mono ?_
      rintro en0 wf ⟨⟨vf, rfl⟩, hbf, hgf⟩
      rw [← HP.out] at hbf
      go_wp2_with fail
      go_meet
      exact ⟨hbf, hgf⟩
    | false =>
      have HP : Hid (tagF (vt, st) = st) := Lib.hid (by unfold tagF; rw [if_neg (fun h => by have := hd.2 h; cases this)])
      clear hd
      have hrb := hS.rd
      rw [← HP.out] at hrb
      go_wp2_with fail
      go_meet
      exact ⟨hrb, ⟨rfl, rfl, rfl, Nat.le_refl _, fun _ _ _ => rfl⟩⟩
  obtain ⟨hrc, hgc⟩ := hcut
  obtain ⟨W4, rfl⟩ : ∃ W : World, W = wc := ⟨_, rfl⟩
  have hS4 := hS.reader hrc hgc
  obtain ⟨s1, hs1⟩ : ∃ z, z = tagF (vt, st) := ⟨_, rfl⟩
  rw [← hs1] at hS4
  have Hs1 := Lib.hid hs1
  skip
  clear hd hrc hgc hS hs1
  have hib := HX.out _ hS4.kept
  have hrb := hS4.rd
  go_wp2_with fail
  refine (rUint_any gr x b s1 W4 hib hrb hl).mono ?_
  rintro en0 W5 ⟨rfl, hb2, hg2⟩
  have hS5 := hS4.reader hb2 hg2
  have hrng := uintS_range b s1
  obtain ⟨uk, huk⟩ : ∃ u, u = uintS b s1 := ⟨_, rfl⟩
  rw [← huk] at hb2 hS5 hrng ⊢
  have Huk := Lib.hid huk
  obtain ⟨vk, sk⟩ := uk
  dsimp only at hb2 hS5 hrng ⊢
  skip
  clear hib hrb hb2 hg2 hS4 huk
  have hrk := hrng
  obtain ⟨q0, q1, q2⟩ := blk3 hS5.b5
  have f1 := blk_free hS5.b5 1
  have hlt5 := heap_lt hS5.b5
  have hS6 := hS5.put 1 (.int .i64 vk)
  simp only [List.setIfInBounds_toArray, List.set_cons_succ, List.set_cons_zero] at hS6
  go_upto_region 7 with fail
  clear q0 q1 q2 f1 hlt5 hS5 hrng
  generalize W5.setCell ⟨g5, 1, none⟩ (.int .i64 vk) = W6 at *
  try dsimp only [Act.put]
  obtain ⟨k0, k1, k2⟩ := blk3' hS6.rd
  obtain ⟨q0, q1, q2⟩ := blk3 hS6.b5
  obtain ⟨db, hdb⟩ : ∃ d, d = decide (1 < vk) := ⟨_, rfl⟩
  have hdb' := hdb.symm
  have HDB := Lib.hid hdb
  clear hdb
  go_upto_if 40 with fail
  clear k0 k1 k2 q0 q1 q2
  go_cut [] (fun wx => RBlk gr x (kidF (vk, sk)) wx ∧ W6.grownBy wx (some gr))
  case first =>
    have hrb := hS6.rd
    cases db with
    | true =>
      have HP : Hid (kidF (vk, sk) = failS 4 sk) := Lib.hid (by unfold kidF; rw [if_pos (of_decide_eq_true HDB.out.symm)])
      clear hdb'
      go_wp2_with fail
      refine (rFail_any gr x 4 sk W6 hrb).mono ?_
      rintro en0 wf ⟨⟨vf, rfl⟩, hbf, hgf⟩
      rw [← HP.out] at hbf
      go_wp2_with fail
      go_meet
      exact ⟨hbf, hgf⟩
    | false =>
      have HP : Hid (kidF (vk, sk) = sk) := Lib.hid (by unfold kidF; rw [if_neg (of_decide_eq_false HDB.out.symm)])
      clear hdb'
      rw [← HP.out] at hrb
      go_wp2_with fail
      go_meet
      exact ⟨hrb, ⟨rfl, rfl, rfl, Nat.le_refl _, fun _ _ _ => rfl⟩⟩
  obtain ⟨hrc, hgc⟩ := hcut
  obtain ⟨W7, rfl⟩ : ∃ W : World, W = wc := ⟨_, rfl⟩
  have hS7 := hS6.reader hrc hgc
  obtain ⟨s2, hs2⟩ : ∃ z, z = kidF (vk, sk) := ⟨_, rfl⟩
  rw [← hs2] at hS7
  have Hs2 := Lib.hid hs2
  clear hrc hgc hdb' HDB hS6 hs2
  have hib := HX.out _ hS7.kept
  have hrb := hS7.rd
  go_wp2_with fail
  refine (rUint_any gr x b s2 W7 hib hrb hl).mono ?_
  rintro en0 W8 ⟨rfl, hb2, hg2⟩
  have hS8 := hS7.reader hb2 hg2
  have hrng := uintS_range b s2
  obtain ⟨uc, huc⟩ : ∃ u, u = uintS b s2 := ⟨_, rfl⟩
  rw [← huc] at hb2 hS8 hrng ⊢
  have Huc := Lib.hid huc
  obtain ⟨vc, sc⟩ := uc
  dsimp only at hb2 hS8 hrng ⊢
  skip
  clear hib hrb hb2 hg2 hS7 huc
  have hrc := hrng
  clear hrng
  obtain ⟨k0, k1, k2⟩ := blk3' hS8.rd
  obtain ⟨q0, q1, q2⟩ := blk3 hS8.b5
  obtain ⟨db, hdb⟩ : ∃ d, d = decide (12 < vc) := ⟨_, rfl⟩
  have hdb' := hdb.symm
  have HDB := Lib.hid hdb
  clear hdb
  go_upto_if 46 with fail
  clear k0 k1 k2 q0 q1 q2
  go_cut [] (fun wx => RBlk gr x (cntF (vc, sc)) wx ∧ W8.grownBy wx (some gr))
  case first =>
    have hrb := hS8.rd
    cases db with
    | true =>
      have HP : Hid (cntF (vc, sc) = failS 5 sc) := Lib.hid (by unfold cntF; rw [if_pos (of_decide_eq_true HDB.out.symm)])
      clear hdb'
      go_wp2_with fail
      refine (rFail_any gr x 5 sc W8 hrb).mono ?_
      rintro en0 wf ⟨⟨vf, rfl⟩, hbf, hgf⟩
      rw [← HP.out] at hbf
      go_wp2_with fail
      go_meet
      exact ⟨hbf, hgf⟩
    | false =>
      have HP : Hid (cntF (vc, sc) = sc) := Lib.hid (by unfold cntF; rw [if_neg (of_decide_eq_false HDB.out.symm)])
      clear hdb'
      rw [← HP.out] at hrb
      go_wp2_with fail
      go_meet
      exact ⟨hrb, ⟨rfl, rfl, rfl, Nat.le_refl _, fun _ _ _ => rfl⟩⟩
  obtain ⟨hrc, hgc⟩ := hcut
  obtain ⟨W9, rfl⟩ : ∃ W : World, W = wc := ⟨_, rfl⟩
  have hS9 := hS8.reader hrc hgc
  obtain ⟨s3, hs3⟩ : ∃ z, z = cntF (vc, sc) := ⟨_, rfl⟩
  rw [← hs3] at hS9
  have Hs3 := Lib.hid hs3
  clear hrc hgc hdb' HDB hS8 hs3
  have hc12 : vc ≤ 12 ∨ s3.e ≠ 0 := by
    by_cases h : vc ≤ 12
    · exact .inl h
    · refine .inr ?_
      rw [Hs3.out]
      unfold cntF
      rw [if_pos (by simp only; omega)]
      unfold failS
      split
      · simp
      · assumption
  obtain ⟨cn, hcn⟩ : ∃ c, c = vc.toNat := ⟨_, rfl⟩
  have hcv : vc = (cn : Int) := by omega
  clear hcn
  subst hcv
  have HFN : Hid (shpS b n s = (⟨vt, vk, (namesS b cn [] s3).1⟩, (namesS b cn [] s3).2)) := Lib.hid (by
    unfold shpS
    simp only
    rw [← HS0.out, ← HUT.out, ← Hs1.out, ← Huk.out, ← Hs2.out, ← Huc.out, ← Hs3.out]
    rfl)
  clear HS0 HUT Hs1 Huk Hs2 Huc Hs3 hrt hrk hrc
  have hown0 : OwnV iv 3 w.heap.size W9 (.slice none 0 0) (flatP []) := OwnV.nil _
  go_wp2_with fail
  go_loopw [7] (fun i wr => ∃ (k f : Nat) (ps : List (Int × Int)) (s : RS18) (y : Value), i = .int .i64 (k : Int) ∧ Hid (namesS b cn [] s3 = namesS b f ps s) ∧ k + f = cn ∧ ps.length = k ∧ k ≤ 12 ∧ ((cn : Int) ≤ 12 ∨ s.e ≠ 0) ∧ XS w gr g4 g5 x s #[.int .i64 vt, .int .i64 vk, y] wr ∧ OwnV iv 3 w.heap.size wr y (flatP ps)) (fun i _ => 13 - (intOf i).toNat)
  case atStart => exact ⟨0, cn, [], s3, _, rfl, Lib.hid rfl, by omega, rfl, by omega, hc12, hS9, hown0⟩
  case round =>
    clear hS9 hown0 hc12
    obtain ⟨k, f, ps, s, y, rfl, HF, hkf, hpl, hk12, hc12, hS, hown⟩ := hrel
    obtain ⟨wo, rfl⟩ : ∃ W : World, W = wr := ⟨_, rfl⟩
    obtain ⟨AY, cY, hyv, _⟩ := id hown.inV
    obtain ⟨ny, hny⟩ : ∃ n, n = (flatP ps).length := ⟨_, rfl⟩
    have hny2 : ny = 2 * k := by rw [hny, flatP_len, hpl]
    rw [← hny] at hyv
    subst hyv
    have HNY := Lib.hid hny
    have HPL := Lib.hid hpl
    have HNY2 := Lib.hid hny2
    clear hny hpl hny2
    go_upto_region 13 with fail
    go_cut [58] (fun sl wx => ∃ d : Bool, sl = .bool d ∧ (d = true ↔ k < cn ∧ s.e = 0) ∧ wx = wo)
    case first =>
      obtain ⟨k0, k1, k2⟩ := blk3' hS.rd
      by_cases h1 : k < cn
      · have d1 : decide (k < cn) = true := by simpa using h1
        by_cases h2 : s.e = 0
        · have d2 : (s.e == 0) = true := by simpa using h2
          have d2' : decide (s.e = 0) = true := by simpa using h2
          have HQ : Hid (k < cn ∧ s.e = 0) := Lib.hid ⟨h1, h2⟩
          clear h1 h2
          go_wp2_with fail
          go_meet
          exact ⟨true, rfl, ⟨fun _ => HQ.out, fun _ => rfl⟩, rfl⟩
        · have d2 : (s.e == 0) = false := by simpa using h2
          have d2' : decide (s.e = 0) = false := by simpa using h2
          have HQ : Hid (¬ (k < cn ∧ s.e = 0)) := Lib.hid (fun h => h2 h.2)
          clear h1 h2
          go_wp2_with fail
          go_meet
          exact ⟨false, rfl, ⟨fun h => (by cases h), fun h => absurd h HQ.out⟩, rfl⟩
      · have d1 : decide (k < cn) = false := by simpa using h1
        have HQ : Hid (¬ (k < cn ∧ s.e = 0)) := Lib.hid (fun h => h1 h.1)
        clear h1
        go_wp2_with fail
        go_meet
        exact ⟨false, rfl, ⟨fun h => (by cases h), fun h => absurd h HQ.out⟩, rfl⟩
    obtain ⟨d, rfl, hd, hwe⟩ := hcut
    subst hwe
    obtain ⟨wo, rfl⟩ : ∃ W : World, W = wc := ⟨_, rfl⟩
    cases d with
    | false =>
      have HE : Hid (namesS b cn [] s3 = (ps, s)) := Lib.hid (by
        rw [HF.out]
        by_cases h : s.e = 0
        · have : f = 0 := by
            by_cases h2 : k < cn
            · have := hd.2 ⟨h2, h⟩; cases this
            · omega
          subst this
          rfl
        · exact namesS_dead h)
      clear hd HF
      have hldt := run_loadAt_blk (P := Try.prog) wo g5 69 69 _ (0, 0) _ hS.b5 Try.underlying69 rfl sh_size
      have hstr := run_storeAt_blk (P := Try.prog) wo g4 69 69 _ #[.int .i64 vt, .int .i64 vk, .slice AY ny cY] hS.b4 sh_size rfl (by simp [Value.oneCell'])
      have hgr4 := gsetRow wo g4 #[.int .i64 vt, .int .i64 vk, .slice AY ny cY]
      have hGr := setRow_heap wo g4 _ #[.int .i64 vt, .int .i64 vk, .slice AY ny cY] _ _ hS.b4
      have hownr := hown.kept hgr4 (.inr (hown.ne_blk hS.b4 (by decide)))
      have hkr := hS.kept.trans (Kept.of_grown hgr4 hS.kept.size (fun k e => by cases e; exact .inl hS.low4))
      have hrr : RBlk gr x s (wo.setRow g4 #[.int .i64 vt, .int .i64 vk, .slice AY ny cY]) := blk_grown hS.rd hgr4 (fun e => hS.rd.ne_sh hS.b4 (by injection e))
      clear hS hown hgr4
      go_wp2_with first | refine wpList_load_run rfl 69 (.tmp 5) rfl _ _ rfl hldt ?_ | refine wpList_store_run rfl 69 (.tmp 4) (.tmp 118) rfl _ _ _ rfl rfl hstr ?_
      have q0 := blk_at hGr 0 _ rfl
      have q1 := blk_at hGr 1 _ rfl
      have q2 := blk_at hGr 2 _ rfl
      refine bodyPost_ret (v := .agg #[.int .i64 vt, .int .i64 vk, .slice AY ny cY]) (by simp [results, Try.results46, go_sem, q0, q1, q2]) rfl ?_
      rw [HFN.out, HE.out]
      exact ⟨_, rfl, hownr, hrr, hkr⟩
    | true =>
      obtain ⟨hkc, he0⟩ := hd.1 rfl
      clear hd
      have hcn12 : cn ≤ 12 := by omega
      obtain ⟨f1, rfl⟩ : ∃ f1, f = f1 + 1 := ⟨f - 1, by omega⟩
      have HFU : Hid (namesS b cn [] s3 = namesS b f1 (ps ++ [((uintS b s).1, (uintS b (dupF ps (uintS b s).1 (tagF (uintS b s)))).1)]) (frmF (uintS b (dupF ps (uintS b s).1 (tagF (uintS b s)))))) := Lib.hid (by
        rw [HF.out]
        conv => lhs; unfold namesS
        rw [if_neg (fun h => h he0)])
      clear HF he0 hc12
      obtain ⟨WA, rfl⟩ : ∃ W : World, W = wo := ⟨_, rfl⟩
      have hib := HX.out _ hS.kept
      have hrb := hS.rd
      go_wp2_with fail
      refine (rUint_any gr x b s WA hib hrb hl).mono ?_
      rintro en0 WB ⟨rfl, hb2, hg2⟩
      have hSB := hS.reader hb2 hg2
      have hrng := uintS_range b s
      obtain ⟨ua, hua⟩ : ∃ u, u = uintS b s := ⟨_, rfl⟩
      rw [← hua] at hb2 hSB hrng ⊢
      have Hua := Lib.hid hua
      obtain ⟨va, sa⟩ := ua
      dsimp only at hb2 hSB hrng ⊢
      replace hown := hown.kept hg2 (.inr (hown.ne_blk hS.rd (by decide)))
      clear hib hrb hb2 hg2 hS hua
      have hra := hrng
      clear hrng
      go_upto_region 16 with fail
      go_cut [75] (fun sl wx => ∃ d : Bool, sl = .bool d ∧ (d = true ↔ sa.e = 0 ∧ (va < 1 ∨ 63 < va)) ∧ wx = WB)
      case first =>
        obtain ⟨k0, k1, k2⟩ := blk3' hSB.rd
        obtain ⟨q0, q1, q2⟩ := blk3 hSB.b5
        by_cases h1 : sa.e = 0
        case neg =>
          have d1 : (sa.e == 0) = false := by simpa using h1
          have d1' : decide (sa.e = 0) = false := by simpa using h1
          have HQ : Hid (false = true ↔ sa.e = 0 ∧ (va < 1 ∨ 63 < va)) := Lib.hid (by simp [h1])
          clear h1
          go_wp2_with fail
          go_meet
          exact ⟨false, rfl, HQ.out, rfl⟩
        have d1 : (sa.e == 0) = true := by simpa using h1
        have d1' : decide (sa.e = 0) = true := by simpa using h1
        by_cases h2 : va < 1
        case pos =>
          have d2 : decide (va < 1) = true := by simpa using h2
          have HQ : Hid (sa.e = 0 ∧ (va < 1 ∨ 63 < va)) := Lib.hid (by simp [h1, h2])
          clear h1 h2
          go_wp2_with fail
          go_meet
          exact ⟨true, rfl, ⟨fun _ => HQ.out, fun _ => rfl⟩, rfl⟩
        have d2 : decide (va < 1) = false := by simpa using h2
        by_cases h3 : 63 < va
        · have d3 : decide (63 < va) = true := by simpa using h3
          have HQ : Hid (sa.e = 0 ∧ (va < 1 ∨ 63 < va)) := Lib.hid (by simp [h1, h3])
          clear h1 h2 h3
          go_wp2_with fail
          go_meet
          exact ⟨true, rfl, ⟨fun _ => HQ.out, fun _ => rfl⟩, rfl⟩
        · have d3 : decide (63 < va) = false := by simpa using h3
          have HQ : Hid (false = true ↔ sa.e = 0 ∧ (va < 1 ∨ 63 < va)) := Lib.hid (by simp [h2, h3])
          clear h1 h2 h3
          go_wp2_with fail
          go_meet
          exact ⟨false, rfl, HQ.out, rfl⟩
      obtain ⟨d, rfl, hd, hwe⟩ := hcut
      subst hwe
      obtain ⟨WB, rfl⟩ : ∃ W : World, W = wc := ⟨_, rfl⟩
      go_upto_if 75 with fail
      go_cut [] (fun wx => RBlk gr x (tagF (va, sa)) wx ∧ WB.grownBy wx (some gr))
      case first =>
        cases d with
        | true =>
          have HP : Hid (tagF (va, sa) = failS 4 sa) := Lib.hid (by unfold tagF; rw [if_pos (hd.1 rfl)])
          clear hd
          have hrb := hSB.rd
          go_wp2_with fail
          refine (rFail_any gr x 4 sa WB hrb).mono ?_
          rintro en0 wf ⟨⟨vf, rfl⟩, hbf, hgf⟩
          rw [← HP.out] at hbf
          go_wp2_with fail
          go_meet
          exact ⟨hbf, hgf⟩
        | false =>
          have HP : Hid (tagF (va, sa) = sa) := Lib.hid (by unfold tagF; rw [if_neg (fun h => by have := hd.2 h; cases this)])
          clear hd
          have hrb := hSB.rd
          rw [← HP.out] at hrb
          go_wp2_with fail
          go_meet
          exact ⟨hrb, ⟨rfl, rfl, rfl, Nat.le_refl _, fun _ _ _ => rfl⟩⟩
      obtain ⟨hrc, hgc⟩ := hcut
      obtain ⟨WC, rfl⟩ : ∃ W : World, W = wc := ⟨_, rfl⟩
      have hSC := hSB.reader hrc hgc
      obtain ⟨st1, hst1⟩ : ∃ z, z = tagF (va, sa) := ⟨_, rfl⟩
      rw [← hst1] at hSC
      have Hst1 := Lib.hid hst1
      replace hown := hown.kept hgc (.inr (hown.ne_blk hSB.rd (by decide)))
      clear hd hrc hgc hSB hst1
      go_wp2_with fail
      go_loopw [9] (fun i wr => ∃ (m im : Nat), i = .int .i64 (im : Int) ∧ Hid (im = 2 * m) ∧ m ≤ k ∧ XS w gr g4 g5 x (dupF (ps.take m) va st1) #[.int .i64 vt, .int .i64 vk, .slice AY ny cY] wr ∧ OwnV iv 3 w.heap.size wr (.slice AY ny cY) (flatP ps)) (fun i _ => 30 - (intOf i).toNat)
      case atStart => exact ⟨0, 0, rfl, Lib.hid rfl, by omega, by rw [show dupF (ps.take 0) va st1 = st1 from by unfold dupF; rw [if_neg (by simp)]]; exact hSC, hown⟩
      case round =>
        clear hSC hown
        obtain ⟨m, im, rfl, HIM, hm, hS, hown⟩ := hrel
        obtain ⟨wm, rfl⟩ : ∃ W : World, W = wr := ⟨_, rfl⟩
        obtain ⟨q0, q1, q2⟩ := blk3 hS.b5
        by_cases hmk : m < k
        · have him : im < ny := by have := HIM.out; have := HNY2.out; omega
          have him' : (im : Int) < (ny : Int) := by omega
          have hmp : m < ps.length := by rw [HPL.out]; exact hmk
          have him30 : im < 26 := by have := HNY2.out; omega
          have hwm : IntKind.i64.wrap ((im : Int) + 2) = ((im + 2 : Nat) : Int) := by rw [IntKind.wrap_i64]; omega
          obtain ⟨Ax, cx, ex, _, hrd⟩ := id hown.inV
          have eA : AY = Ax := by injection ex
          subst eA
          clear ex
          have hil : im < (flatP ps).length := by rw [← HNY.out]; exact him
          obtain ⟨b8, o8, eA8, hc8⟩ := hrd.at2 (k := im) (by simpa using hil)
          have hnm : (flatP ps)[im] = ps[m].1 := by
            have := (flatP_get ps m hmp).1
            rw [← HIM.out, List.getElem?_eq_getElem hil] at this
            injection this
          rw [List.getElem_map, hnm] at hc8
          simp only [iv] at hc8
          have HST := Lib.hid (dup_step hmp va st1)
          have HIM2 : Hid (im + 2 = 2 * (m + 1)) := Lib.hid (by have := HIM.out; omega)
          generalize ps[m].1 = pn at *
          clear hrd hnm hil him hmp
          have hownC := hown
          rw [eA8] at hown q2
          have HEA := Lib.hid eA8
          clear eA8
          by_cases hpv : pn = va
          · have d1 : (pn == va) = true := by simpa using hpv
            have d1' : decide (pn = va) = true := by simpa using hpv
            have HP : Hid (dupF (ps.take (m + 1)) va st1 = failS 9 (dupF (ps.take m) va st1)) := Lib.hid (by rw [HST.out, if_pos hpv])
            clear hpv
            have hrb := hS.rd
            go_wp2_with fail
            refine (rFail_any gr x 9 _ wm hrb).mono ?_
            rintro en0 wf ⟨⟨vf, rfl⟩, hbf, hgf⟩
            rw [← HP.out] at hbf
            have hSF := hS.reader hbf hgf
            have hoF := hownC.kept hgf (.inr (hownC.ne_blk hS.rd (by decide)))
            clear hbf hgf hS hown hownC q0 q1 q2 hc8 hrb
            go_wp2_with fail
            go_roundw
            case rel => exact ⟨m + 1, im + 2, by first | (with_reducible rfl) | go_num, HIM2, by omega, hSF, hoF⟩
            case measure => simp [intOf]; omega
          · have d1 : (pn == va) = false := by simpa using hpv
            have d1' : decide (pn = va) = false := by simpa using hpv
            have HP : Hid (dupF (ps.take (m + 1)) va st1 = dupF (ps.take m) va st1) := Lib.hid (by rw [HST.out, if_neg hpv])
            clear hpv
            have hSF := hS
            rw [← HP.out] at hSF
            go_wp2_with fail
            go_roundw
            case rel => exact ⟨m + 1, im + 2, by first | (with_reducible rfl) | go_num, HIM2, by omega, hSF, hownC⟩
            case measure => simp [intOf]; omega
        · have him' : ¬ (im : Int) < (ny : Int) := by have := HIM.out; have := HNY2.out; omega
          have hta : ps.take m = ps := List.take_of_length_le (by have := HPL.out; have := HNY2.out; have := HIM.out; omega)
          rw [hta] at hS
          obtain ⟨sd, hsd⟩ : ∃ z, z = dupF ps va st1 := ⟨_, rfl⟩
          rw [← hsd] at hS
          have Hsd := Lib.hid hsd
          clear hsd hta HIM
          have hib := HX.out _ hS.kept
          have hrb := hS.rd
          go_wp2_with fail
          refine (rUint_any gr x b sd wm hib hrb hl).mono ?_
          rintro en0 WD ⟨rfl, hb2, hg2⟩
          have hSD := hS.reader hb2 hg2
          have hrng := uintS_range b sd
          obtain ⟨uf, huf⟩ : ∃ u, u = uintS b sd := ⟨_, rfl⟩
          rw [← huf] at hb2 hSD hrng ⊢
          have Huf := Lib.hid huf
          obtain ⟨vf, sf⟩ := uf
          dsimp only at hb2 hSD hrng ⊢
          replace hown := hown.kept hg2 (.inr (hown.ne_blk hS.rd (by decide)))
          clear hib hrb hb2 hg2 hS huf
          have hrf := hrng
          clear hrng q0 q1 q2
          go_upto_region 24 with fail
          go_cut [108] (fun sl wx => ∃ d : Bool, sl = .bool d ∧ (d = true ↔ sf.e = 0 ∧ (vf < 1 ∨ 4 < vf)) ∧ wx = WD)
          case first =>
            obtain ⟨k0, k1, k2⟩ := blk3' hSD.rd
            obtain ⟨q0, q1, q2⟩ := blk3 hSD.b5
            by_cases h1 : sf.e = 0
            case neg =>
              have d1 : (sf.e == 0) = false := by simpa using h1
              have d1' : decide (sf.e = 0) = false := by simpa using h1
              have HQ : Hid (false = true ↔ sf.e = 0 ∧ (vf < 1 ∨ 4 < vf)) := Lib.hid (by simp [h1])
              clear h1
              go_wp2_with fail
              go_meet
              exact ⟨false, rfl, HQ.out, rfl⟩
            have d1 : (sf.e == 0) = true := by simpa using h1
            have d1' : decide (sf.e = 0) = true := by simpa using h1
            by_cases h2 : vf < 1
            case pos =>
              have d2 : decide (vf < 1) = true := by simpa using h2
              have HQ : Hid (sf.e = 0 ∧ (vf < 1 ∨ 4 < vf)) := Lib.hid (by simp [h1, h2])
              clear h1 h2
              go_wp2_with fail
              go_meet
              exact ⟨true, rfl, ⟨fun _ => HQ.out, fun _ => rfl⟩, rfl⟩
            have d2 : decide (vf < 1) = false := by simpa using h2
            by_cases h3 : 4 < vf
            · have d3 : decide (4 < vf) = true := by simpa using h3
              have HQ : Hid (sf.e = 0 ∧ (vf < 1 ∨ 4 < vf)) := Lib.hid (by simp [h1, h3])
              clear h1 h2 h3
              go_wp2_with fail
              go_meet
              exact ⟨true, rfl, ⟨fun _ => HQ.out, fun _ => rfl⟩, rfl⟩
            · have d3 : decide (4 < vf) = false := by simpa using h3
              have HQ : Hid (false = true ↔ sf.e = 0 ∧ (vf < 1 ∨ 4 < vf)) := Lib.hid (by simp [h2, h3])
              clear h1 h2 h3
              go_wp2_with fail
              go_meet
              exact ⟨false, rfl, HQ.out, rfl⟩
          obtain ⟨d, rfl, hd, hwe⟩ := hcut
          subst hwe
          obtain ⟨WD, rfl⟩ : ∃ W : World, W = wc := ⟨_, rfl⟩
          go_upto_if 108 with fail
          go_cut [] (fun wx => RBlk gr x (frmF (vf, sf)) wx ∧ WD.grownBy wx (some gr))
          case first =>
            cases d with
            | true =>
              have HP : Hid (frmF (vf, sf) = failS 4 sf) := Lib.hid (by unfold frmF; rw [if_pos (hd.1 rfl)])
              clear hd
              have hrb := hSD.rd
              go_wp2_with fail
              refine (rFail_any gr x 4 sf WD hrb).mono ?_
              rintro en0 wf ⟨⟨vf, rfl⟩, hbf, hgf⟩
              rw [← HP.out] at hbf
              go_wp2_with fail
              go_meet
              exact ⟨hbf, hgf⟩
            | false =>
              have HP : Hid (frmF (vf, sf) = sf) := Lib.hid (by unfold frmF; rw [if_neg (fun h => by have := hd.2 h; cases this)])
              clear hd
              have hrb := hSD.rd
              rw [← HP.out] at hrb
              go_wp2_with fail
              go_meet
              exact ⟨hrb, ⟨rfl, rfl, rfl, Nat.le_refl _, fun _ _ _ => rfl⟩⟩
          obtain ⟨hrc, hgc⟩ := hcut
          obtain ⟨WE, rfl⟩ : ∃ W : World, W = wc := ⟨_, rfl⟩
          have hSE := hSD.reader hrc hgc
          obtain ⟨sg, hsg⟩ : ∃ z, z = frmF (vf, sf) := ⟨_, rfl⟩
          rw [← hsg] at hSE
          have Hsg := Lib.hid hsg
          replace hown := hown.kept hgc (.inr (hown.ne_blk hSD.rd (by decide)))
          clear hd hrc hgc hSD hsg
          have HFN2 : Hid (namesS b cn [] s3 = namesS b f1 (ps ++ [(va, vf)]) sg) := Lib.hid (by
            rw [HFU.out, ← Hua.out]
            dsimp only
            rw [← Hst1.out, ← Hsd.out, ← Huf.out]
            dsimp only
            rw [← Hsg.out])
          have hA := (Ext.refl WE).alloc (.cells #[.int .i64 va, .int .i64 vf] 3)
          have hin : InV iv (WE.alloc (.cells #[.int .i64 va, .int .i64 vf] 3)) (.slice (some ⟨WE.heap.size, 0, none⟩) 2 2) [va, vf] := (OwnV_two WE va vf).inV
          have howna := hown.ext hA
          have hSA := hSE.ext hA
          have hsz := hSA.kept.size
          obtain ⟨r0, r1, r2⟩ := blk3 hSE.b5
          go_wp2_with (at_builtin; go_must (refine wpList_appendV elem_in (fun _ => rfl) rfl (.tmp 112) (.tmp 115) rfl w.heap.size (.slice AY ny cY) (flatP ps) rfl howna (.slice (some ⟨WE.heap.size, 0, none⟩) 2 2) [va, vf] rfl hin (by rw [← HNY.out]; have := HNY2.out; simp only [List.length_cons, List.length_nil]; omega) (by omega) hsz (Hold.out ?_)))
          refine Hold.mk fun v9 w9 ho9 hg9 => ?_
          have hS9 := hSA.row howna hg9
          have hfp : flatP ps ++ [va, vf] = flatP (ps ++ [(va, vf)]) := (flatP_snoc ps (va, vf)).symm
          rw [hfp] at ho9
          clear hA hin howna hSA hsz r0 r1 r2 hg9 hSE hown hfp
          obtain ⟨A9, c9, hv9, _⟩ := id ho9.inV
          obtain ⟨n9, hn9⟩ : ∃ n, n = (flatP (ps ++ [(va, vf)])).length := ⟨_, rfl⟩
          rw [← hn9] at hv9
          subst hv9
          clear hn9
          have hSz := hS9.put 2 (.slice A9 n9 c9)
          simp only [List.setIfInBounds_toArray, List.set_cons_succ, List.set_cons_zero] at hSz
          have hownz := ho9.kept (gset w9 ⟨g5, 2, none⟩ (.slice A9 n9 c9)) (.inr (ho9.ne_blk hS9.b5 (by decide)))
          obtain ⟨r0, r1, r2⟩ := blk3 hS9.b5
          have f2 := blk_free hS9.b5 2
          have hlt9 := heap_lt hS9.b5
          have hpl2 : (ps ++ [(va, vf)]).length = k + 1 := by rw [List.length_append, HPL.out]; rfl
          clear ho9 hS9
          have hwk : IntKind.i64.wrap ((k : Int) + 1) = ((k + 1 : Nat) : Int) := by rw [IntKind.wrap_i64]; omega
          go_wp2_with fail
          go_roundw
          case rel => exact ⟨k + 1, f1, _, sg, _, by first | (with_reducible rfl) | go_num, HFN2, by omega, hpl2, by omega, .inl (by omega), hSz, hownz⟩
          case measure => simp [intOf]; omega
end Go.Proofs.Ytopanbcodfkedaa
