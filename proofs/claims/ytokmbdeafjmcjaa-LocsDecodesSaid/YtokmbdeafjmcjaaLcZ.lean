/- The specification's reader: bytes, ints, places: the walks. -/
import Derived.Test.YtokmbdeafjmcjaaLcY
import Derived.Test.YtokmbdeafjmcjaaLcW
namespace Go.Proofs.Ytokmbdeafjmcjaa
open Go.RowKit
set_option linter.unusedVariables false
set_option linter.unusedSimpArgs false

set_option maxHeartbeats 4000000 in
set_option maxRecDepth 100000 in
theorem rInt_any (gr : Nat) (x : Value) (b : List UInt8) (s : RS18) (w : World) (hx : InB w x b) (hb : RBlk gr x s w) (hl : b.length ≤ 1000000) :
    Calls Try.prog 118 #[.pointer (some ⟨gr, 0, none⟩)] w (RdS gr x (intS b s) w) := by
  obtain ⟨A, c, rfl, _, _⟩ := id hx
  obtain ⟨n0, hn0⟩ : ∃ n0, n0 = b.length := ⟨_, rfl⟩
  unfold RBlk at hb
  rw [← hn0] at hb
  obtain ⟨p, er0⟩ := s
  dsimp only at hb
  obtain ⟨c0, c1, c2⟩ := blk3' hb
  have HN0 := Lib.hid hn0
  obtain ⟨X, hX⟩ : ∃ X, X = Value.slice A n0 c := ⟨_, rfl⟩
  have hXe : Value.slice A b.length c = X := by rw [hX, hn0]
  rw [hXe]
  have HXE := Lib.hid hX
  clear hn0 hXe hX
  go_enter Try.func118, Try.ntmps118
  by_cases h0 : er0 = 0
  case neg =>
    have e0 : (er0 != 0) = true := by simpa using h0
    have HP : Hid (intS b ⟨p, er0⟩ = (0, ⟨p, er0⟩)) := Lib.hid (by unfold intS; rw [if_pos h0])
    clear h0
    go_wp2_with fail
    go_ret
    rw [HP.out]
    exact ⟨rfl, by unfold RBlk; rw [HXE.out]; exact hb, ⟨rfl, rfl, rfl, Nat.le_refl _, fun _ _ _ => rfl⟩⟩
  subst h0
  have e0 : ((0 : Int) != 0) = false := rfl
  obtain ⟨v, next, er, hr⟩ : ∃ v next er, intR b p = (v, next, er) := ⟨_, _, _, rfl⟩
  have HR := Lib.hid hr
  clear hr
  go_upto_region 3 with fail
  refine wp_region_X #[true, true, true, true, true, true, true, true, true, true, true, true, true, false, false, false] 13 3 (by kernel_rfl) rfl ?_
  refine wpX_vt 0 (.pointer (some ⟨gr, 0, none⟩)) rfl rfl (by kernel_rfl) (by kernel_rfl) (by kernel_rfl) (fun _ _ _ _ h => h) (by kernel_rfl) rfl (by rfl) (fun W' hW => by
    skip
    go_simp) ?_
  simp only [List.setIfInBounds_toArray, List.set_cons_zero, List.set_cons_succ]
  refine wpX_vt 1 (.pointer (some ⟨gr, 0, none⟩)) rfl rfl (by kernel_rfl) (by kernel_rfl) (by kernel_rfl) (fun _ _ _ _ h => h) (by kernel_rfl) rfl (by rfl) (fun W' hW => by
    skip
    go_simp) ?_
  simp only [List.setIfInBounds_toArray, List.set_cons_zero, List.set_cons_succ]
  refine wpX_vt 2 (.pointer (some ⟨gr, 0, none⟩)) rfl rfl (by kernel_rfl) (by kernel_rfl) (by kernel_rfl) (fun _ _ _ _ h => h) (by kernel_rfl) rfl (by rfl) (fun W' hW => by
    skip
    go_simp) ?_
  simp only [List.setIfInBounds_toArray, List.set_cons_zero, List.set_cons_succ]
  refine wpX_vt 3 (.slice A n0 c) rfl rfl (by kernel_rfl) (by kernel_rfl) (by kernel_rfl) (fun _ _ _ _ h => h) (by kernel_rfl) rfl (by rfl) (fun W' hW => by
    have z := (((Ext.refl w).drew).trans hW).cell c0
    go_simp) ?_
  simp only [List.setIfInBounds_toArray, List.set_cons_zero, List.set_cons_succ]
  refine wpX_vt 4 (.pointer (some ⟨gr, 0, none⟩)) rfl rfl (by kernel_rfl) (by kernel_rfl) (by kernel_rfl) (fun _ _ _ _ h => h) (by kernel_rfl) rfl (by rfl) (fun W' hW => by
    skip
    go_simp) ?_
  simp only [List.setIfInBounds_toArray, List.set_cons_zero, List.set_cons_succ]
  refine wpX_vt 5 (.pointer (some ⟨gr, 0, none⟩)) rfl rfl (by kernel_rfl) (by kernel_rfl) (by kernel_rfl) (fun _ _ _ _ h => h) (by kernel_rfl) rfl (by rfl) (fun W' hW => by
    skip
    go_simp) ?_
  simp only [List.setIfInBounds_toArray, List.set_cons_zero, List.set_cons_succ]
  refine wpX_vt 6 (.pointer (some ⟨gr, 1, none⟩)) rfl rfl (by kernel_rfl) (by kernel_rfl) (by kernel_rfl) (fun _ _ _ _ h => h) (by kernel_rfl) rfl (by rfl) (fun W' hW => by
    skip
    go_simp) ?_
  simp only [List.setIfInBounds_toArray, List.set_cons_zero, List.set_cons_succ]
  refine wpX_vt 7 (.int .i64 p) rfl rfl (by kernel_rfl) (by kernel_rfl) (by kernel_rfl) (fun _ _ _ _ h => h) (by kernel_rfl) rfl (by rfl) (fun W' hW => by
    have z := (((Ext.refl w).drew).trans hW).cell c1
    go_simp) ?_
  simp only [List.setIfInBounds_toArray, List.set_cons_zero, List.set_cons_succ]
  refine wpX_c 8 120 #[.slice A n0 c, .int .i64 p] rfl rfl (by kernel_rfl) rfl rfl (fun W => by go_simp) ?_
  intro W1 hW1
  have hX1 := ((Ext.refl w).drew).trans hW1
  have hx1 : InB W1 (.slice A n0 c) b := by rw [HN0.out]; exact hx.ext hX1
  refine (refInt_any _ b p W1 hx1 (by omega)).mono ?_
  rw [HR.out]
  rintro en w5 ⟨rfl, rfl⟩
  refine ⟨_, rfl, Ext.refl _, ?_⟩
  simp only [List.setIfInBounds_toArray, List.set_cons_zero, List.set_cons_succ]
  refine wpX_vt 9 (.tuple #[.int .i64 v, .int .i64 next, .int .i64 er]) rfl rfl (by kernel_rfl) (by kernel_rfl) (by kernel_rfl) (fun _ _ _ _ h => h) (by kernel_rfl) rfl (by rfl) (fun W' hW => by
    skip
    go_simp) ?_
  simp only [List.setIfInBounds_toArray, List.set_cons_zero, List.set_cons_succ]
  refine wpX_vt 10 (.int .i64 v) rfl rfl (by kernel_rfl) (by kernel_rfl) (by kernel_rfl) (fun _ _ _ _ h => h) (by kernel_rfl) rfl (by rfl) (fun W' hW => by
    skip
    go_simp) ?_
  simp only [List.setIfInBounds_toArray, List.set_cons_zero, List.set_cons_succ]
  refine wpX_l 11 (.int .i64 next) rfl rfl (by kernel_rfl) (by kernel_rfl) (by kernel_rfl) (fun _ _ _ _ h => h) (LateOK_any rfl (by kernel_rfl) (fun _ _ _ h => h)) rfl (by rfl) (fun W' => by go_simp) ?_
  simp only [List.setIfInBounds_toArray, List.set_cons_zero, List.set_cons_succ]
  refine wpX_l 12 (.int .i64 er) rfl rfl (by kernel_rfl) (by kernel_rfl) (by kernel_rfl) (fun _ _ _ _ h => h) (LateOK_any rfl (by kernel_rfl) (fun _ _ _ h => h)) rfl (by rfl) (fun W' => by go_simp) ?_
  simp only [List.setIfInBounds_toArray, List.set_cons_zero, List.set_cons_succ]
  refine wpX_end rfl fun W7 hW7 => tail_seq 13 rfl (by kernel_rfl) ?_
  simp only [List.drop_succ_cons, List.drop_zero]
  have hX7 := hX1.trans hW7
  have hb7 := hX7.heap hb
  have f1 := blk_free hb7 1
  have f2 := blk_free hb7 2
  obtain ⟨k0, k1, k2⟩ := blk3' hb7
  have hlt := heap_lt hb7
  clear hW1 hX1 hW7 c0 c1 c2 hx1 hb
  go_wp2_with fail
  refine NoPanic.normal ?_
  by_cases h0 : er = 0
  · have e1 : (er != 0) = false := by simpa using h0
    have HP : Hid (intS b ⟨p, 0⟩ = (v, ⟨next, 0⟩)) := Lib.hid (by unfold intS; simp only [HR.out, h0]; rfl)
    clear h0
    go_wp2_with fail
    go_ret
    rw [HP.out]
    refine ⟨rfl, ?_, gtrans (Ext.grown0 hX7) (gset _ _ _)⟩
    unfold RBlk
    rw [HXE.out]
    exact blk_set hb7 1 (.int .i64 next)
  · have e1 : (er != 0) = true := by simpa using h0
    have HP : Hid (intS b ⟨p, 0⟩ = (0, ⟨p, er⟩)) := Lib.hid (by unfold intS; simp only [HR.out]; rw [if_neg (by simp), if_pos h0])
    clear h0
    go_wp2_with fail
    go_ret
    rw [HP.out]
    refine ⟨rfl, ?_, gtrans (Ext.grown0 hX7) (gset _ _ _)⟩
    unfold RBlk
    rw [HXE.out]
    exact blk_set hb7 2 (.int .i64 er)
set_option maxHeartbeats 4000000 in
set_option maxRecDepth 100000 in
theorem rByte_any (gr : Nat) (x : Value) (b : List UInt8) (s : RS18) (w : World) (hx : St [gr] w (fun W => InB W x b)) (hb : RBlk gr x s w) (hp : s.e = 0 → 0 ≤ s.p ∧ s.p ≤ 1000000) (hl : b.length ≤ 1000000) :
    Calls Try.prog 117 #[.pointer (some ⟨gr, 0, none⟩)] w (RdS gr x (byteS b s) w) := by
  obtain ⟨A, c, rfl, _, _⟩ := id (hx w (Kept.refl _ _ _))
  obtain ⟨n0, hn0⟩ : ∃ n0, n0 = b.length := ⟨_, rfl⟩
  unfold RBlk at hb
  rw [← hn0] at hb hx hl
  obtain ⟨p, er0⟩ := s
  dsimp only at hb hp
  obtain ⟨c0, c1, c2⟩ := blk3' hb
  have HN0 := Lib.hid hn0
  have HX := Lib.hid hx
  obtain ⟨X, hX⟩ : ∃ X, X = Value.slice A n0 c := ⟨_, rfl⟩
  have hXe : Value.slice A b.length c = X := by rw [hX, hn0]
  rw [hXe]
  have HXE := Lib.hid hX
  clear hn0 hXe hX hx
  go_enter Try.func117, Try.ntmps117
  by_cases h0 : er0 = 0
  case neg =>
    have e0 : (er0 != 0) = true := by simpa using h0
    have HP : Hid (byteS b ⟨p, er0⟩ = (0, ⟨p, er0⟩)) := Lib.hid (by unfold byteS; rw [if_pos h0])
    clear h0
    go_wp2_with fail
    go_ret
    rw [HP.out]
    exact ⟨rfl, by unfold RBlk; rw [HXE.out]; exact hb, ⟨rfl, rfl, rfl, Nat.le_refl _, fun _ _ _ => rfl⟩⟩
  subst h0
  obtain ⟨hp0, hp1⟩ := hp rfl
  obtain ⟨pn, rfl⟩ : ∃ pn : Nat, p = (pn : Int) := ⟨p.toNat, by omega⟩
  clear hp hp0
  have e0 : ((0 : Int) != 0) = false := rfl
  go_upto_region 3 with fail
  by_cases hlt : pn < n0
  case neg =>
    have hle : n0 ≤ pn := by omega
    have HP : Hid (byteS b ⟨(pn : Int), 0⟩ = (0, ⟨(pn : Int), 3⟩)) := Lib.hid (by
      unfold byteS
      rw [if_neg (by simp), if_pos (by have := HN0.out; simp only; omega)])
    clear hlt
    go_quiet (fail)
    have hX1 := (Ext.refl w).drewN nq
    have hb1 := hX1.heap hb
    generalize w.drewN nq = w1 at *
    clear c0 c1 c2
    have f2 := blk_free hb1 2
    obtain ⟨k0, k1, k2⟩ := blk3' hb1
    have hltg := heap_lt hb1
    go_wp2_with fail
    go_ret
    rw [HP.out]
    refine ⟨rfl, ?_, gtrans (Ext.grown0 hX1) (gset _ _ _)⟩
    unfold RBlk
    rw [HXE.out]
    exact blk_set hb1 2 (.int .i64 3)
  have hle : ¬ n0 ≤ pn := by omega
  have hpb : pn < b.length := by rw [← HN0.out]; exact hlt
  have HP : Hid (byteS b ⟨(pn : Int), 0⟩ = (byteAt b (pn : Int), ⟨(pn : Int) + 1, 0⟩)) := Lib.hid (by
    unfold byteS
    rw [if_neg (by simp), if_neg (by have := HN0.out; simp only; omega)])
  go_quiet (fail)
  have hX1 := (Ext.refl w).drewN nq
  have hb1 := hX1.heap hb
  generalize w.drewN nq = w1 at *
  clear c0 c1 c2
  have f1 := blk_free hb1 1
  obtain ⟨k0, k1, k2⟩ := blk3' hb1
  have hltg := heap_lt hb1
  have hw1 : IntKind.i64.wrap ((pn : Int) + 1) = (pn : Int) + 1 := by rw [IntKind.wrap_i64]; omega
  have hw2 : IntKind.i64.wrap ((pn : Int) + 1 - 1) = (pn : Int) := by rw [IntKind.wrap_i64]; omega
  have hw3 : IntKind.i64.wrap (pn : Int) = (pn : Int) := by rw [IntKind.wrap_i64]; omega
  go_upto_region 7 with fail
  have s1 := gset w1 ⟨gr, 1, none⟩ (.int .i64 ((pn : Int) + 1))
  have hb2 : (w1.setCell ⟨gr, 1, none⟩ (.int .i64 ((pn : Int) + 1))).heap[gr]? = some (.cells #[.slice A n0 c, .int .i64 ((pn : Int) + 1), .int .i64 0] 135 (0, 0)) := blk_set hb1 1 _
  have hg2 := gtrans (hX1.grownBy (some gr)) s1
  have hin := HX.out _ (Kept.of_grown hg2 (Nat.le_refl _) (fun k e => by cases e; exact .inr (by simp)))
  clear hb hb1 hX1 s1 k0 k1 k2 f1 hltg
  generalize w1.setCell ⟨gr, 1, none⟩ (.int .i64 ((pn : Int) + 1)) = w2 at *
  obtain ⟨AI, cI, eI, _, hrd⟩ := hin
  have hAI : A = AI := by injection eI
  subst hAI
  clear eI
  obtain ⟨bb, oo, rfl, hcell⟩ := hrd.byte hpb
  obtain ⟨kb, hkb⟩ : ∃ kb : Int, kb = byteAt b (pn : Int) := ⟨_, rfl⟩
  have hbk : ((b[pn].toNat : Nat) : Int) = kb := by
    rw [hkb]
    unfold byteAt
    rw [Int.toNat_natCast, List.getD_eq_getElem?_getD, List.getElem?_eq_getElem hpb]
    rfl
  rw [hbk] at hcell
  rw [← hkb] at HP
  have hkr : 0 ≤ kb ∧ kb ≤ 255 := by rw [hkb]; exact byteAt_lt b (pn : Int)
  clear hbk hkb hrd
  obtain ⟨q0, q1, q2⟩ := blk3' hb2
  have hij : (pn : Int) < (n0 : Int) := by omega
  have hcv : IntKind.i64.wrap kb = kb := by rw [IntKind.wrap_i64]; omega
  refine wp_region_X #[true, true, true, true, true, true, true, true, true, true, true, true, false] 12 1 (by kernel_rfl) rfl ?_
  refine wpX_v 0 (.pointer (some ⟨gr, 0, none⟩)) rfl rfl (by kernel_rfl) (by kernel_rfl) (by kernel_rfl) (fun _ _ _ _ h => h) (by kernel_rfl) rfl (by rfl) (fun W' hW => by
    skip
    go_simp) ?_
  simp only [List.setIfInBounds_toArray, List.set_cons_zero, List.set_cons_succ]
  refine wpX_v 1 (.pointer (some ⟨gr, 0, none⟩)) rfl rfl (by kernel_rfl) (by kernel_rfl) (by kernel_rfl) (fun _ _ _ _ h => h) (by kernel_rfl) rfl (by rfl) (fun W' hW => by
    skip
    go_simp) ?_
  simp only [List.setIfInBounds_toArray, List.set_cons_zero, List.set_cons_succ]
  refine wpX_v 2 (.pointer (some ⟨gr, 0, none⟩)) rfl rfl (by kernel_rfl) (by kernel_rfl) (by kernel_rfl) (fun _ _ _ _ h => h) (by kernel_rfl) rfl (by rfl) (fun W' hW => by
    skip
    go_simp) ?_
  simp only [List.setIfInBounds_toArray, List.set_cons_zero, List.set_cons_succ]
  refine wpX_v 3 (.slice (some ⟨bb, oo, none⟩) n0 c) rfl rfl (by kernel_rfl) (by kernel_rfl) (by kernel_rfl) (fun _ _ _ _ h => h) (by kernel_rfl) rfl (by rfl) (fun W' hW => by
    have z := (((Ext.refl w2).drew).trans hW).cell q0
    go_simp) ?_
  simp only [List.setIfInBounds_toArray, List.set_cons_zero, List.set_cons_succ]
  refine wpX_v 4 (.pointer (some ⟨gr, 0, none⟩)) rfl rfl (by kernel_rfl) (by kernel_rfl) (by kernel_rfl) (fun _ _ _ _ h => h) (by kernel_rfl) rfl (by rfl) (fun W' hW => by
    skip
    go_simp) ?_
  simp only [List.setIfInBounds_toArray, List.set_cons_zero, List.set_cons_succ]
  refine wpX_v 5 (.pointer (some ⟨gr, 0, none⟩)) rfl rfl (by kernel_rfl) (by kernel_rfl) (by kernel_rfl) (fun _ _ _ _ h => h) (by kernel_rfl) rfl (by rfl) (fun W' hW => by
    skip
    go_simp) ?_
  simp only [List.setIfInBounds_toArray, List.set_cons_zero, List.set_cons_succ]
  refine wpX_v 6 (.pointer (some ⟨gr, 1, none⟩)) rfl rfl (by kernel_rfl) (by kernel_rfl) (by kernel_rfl) (fun _ _ _ _ h => h) (by kernel_rfl) rfl (by rfl) (fun W' hW => by
    skip
    go_simp) ?_
  simp only [List.setIfInBounds_toArray, List.set_cons_zero, List.set_cons_succ]
  refine wpX_v 7 (.int .i64 ((pn : Int) + 1)) rfl rfl (by kernel_rfl) (by kernel_rfl) (by kernel_rfl) (fun _ _ _ _ h => h) (by kernel_rfl) rfl (by rfl) (fun W' hW => by
    have z := (((Ext.refl w2).drew).trans hW).cell q1
    go_simp) ?_
  simp only [List.setIfInBounds_toArray, List.set_cons_zero, List.set_cons_succ]
  refine wpX_v 8 (.int .i64 (pn : Int)) rfl rfl (by kernel_rfl) (by kernel_rfl) (by kernel_rfl) (fun _ _ _ _ h => h) (by kernel_rfl) rfl (by rfl) (fun W' hW => by
    skip
    go_simp) ?_
  simp only [List.setIfInBounds_toArray, List.set_cons_zero, List.set_cons_succ]
  refine wpX_v 9 (.pointer (some ⟨bb, oo + pn, none⟩)) rfl rfl (by kernel_rfl) (by kernel_rfl) (by kernel_rfl) (fun _ _ _ _ h => h) (by kernel_rfl) rfl (by rfl) (fun W' hW => by
    skip
    go_simp) ?_
  simp only [List.setIfInBounds_toArray, List.set_cons_zero, List.set_cons_succ]
  refine wpX_v 10 (.int .u8 kb) rfl rfl (by kernel_rfl) (by kernel_rfl) (by kernel_rfl) (fun _ _ _ _ h => h) (by kernel_rfl) rfl (by rfl) (fun W' hW => by
    have z := (((Ext.refl w2).drew).trans hW).cell hcell
    go_simp) ?_
  simp only [List.setIfInBounds_toArray, List.set_cons_zero, List.set_cons_succ]
  refine wpX_v 11 (.int .i64 kb) rfl rfl (by kernel_rfl) (by kernel_rfl) (by kernel_rfl) (fun _ _ _ _ h => h) (by kernel_rfl) rfl (by rfl) (fun W' hW => by
    skip
    go_simp) ?_
  simp only [List.setIfInBounds_toArray, List.set_cons_zero, List.set_cons_succ]
  refine wpX_end rfl fun W7 hW7 => tail_seq 12 rfl (by kernel_rfl) ?_
  simp only [List.drop_succ_cons, List.drop_zero]
  have hX7 := ((Ext.refl w2).drew).trans hW7
  have hb7 := hX7.heap hb2
  have hg7 := gtrans hg2 (hX7.grownBy (some gr))
  clear hW7 hX7 hb2 hg2 q0 q1 q2 hcell hw1 hw2 hw3 hcv
  go_wp2_with fail
  refine NoPanic.normal ?_
  go_wp2_with fail
  go_ret
  rw [HP.out]
  exact ⟨rfl, by unfold RBlk; rw [HXE.out]; exact hb7, hg7⟩
/-- the reader stands in its bytes -/
def OKS (b : List UInt8) (s : RS18) : Prop := s.e = 0 → 0 ≤ s.p ∧ s.p ≤ b.length
theorem failS_ok {b : List UInt8} {s : RS18} {er : Int} (h : OKS b s) : OKS b (failS er s) := by
  unfold failS
  split
  · rename_i h1
    exact fun _ => h h1
  · exact h
theorem byteS_ok {b : List UInt8} {s : RS18} (h : OKS b s) : OKS b (byteS b s).2 := by
  unfold byteS
  split
  · exact h
  · rename_i h1
    have h2 := h (by simpa using h1)
    split
    · exact fun h3 => by cases h3
    · intro _
      simp only
      omega
theorem uintS_ok {b : List UInt8} {s : RS18} (h : OKS b s) : OKS b (uintS b s).2 := by
  unfold uintS
  split
  · exact h
  · split
    · rename_i h1
      exact fun h3 => absurd h3 h1
    · rename_i h1
      have h2 := uintR_next (l := b) (p := s.p) (by simpa using h1)
      intro _
      simp only
      omega
theorem intS_ok {b : List UInt8} {s : RS18} (h : OKS b s) : OKS b (intS b s).2 := by
  unfold intS
  split
  · exact h
  · split
    · rename_i h1
      exact fun h3 => absurd h3 h1
    · rename_i h1
      have h2 := intR_fwd (l := b) (p := s.p) (by simpa using h1)
      intro _
      simp only
      omega
theorem smallS_ok {b : List UInt8} {s : RS18} (h : OKS b s) : OKS b (smallS b s).2 := by
  unfold smallS
  split
  · exact failS_ok (uintS_ok h)
  · exact uintS_ok h
theorem limK_ok {b : List UInt8} {m : Int} {u : Int × RS18} (h : OKS b u.2) : OKS b (limK m u) := by
  unfold limK
  split
  · exact failS_ok h
  · exact h
theorem plcF_ok {b : List UInt8} {k : Int × RS18} (h : OKS b k.2) : OKS b (plcF k) := by
  unfold plcF
  split
  · exact failS_ok h
  · exact h
theorem plcN_ok {b : List UInt8} {k : Int × RS18} (h : OKS b k.2) : OKS b (plcN b k).2 := by
  unfold plcN
  split
  · exact smallS_ok (plcF_ok h)
  · exact plcF_ok h
theorem plcA_ok {b : List UInt8} {k : Int} {n : RS18} (h : OKS b n) : OKS b (plcA b k n).2 := by
  unfold plcA
  split
  · unfold addF
    simp only
    split
    · exact failS_ok (intS_ok h)
    · exact intS_ok h
  · exact h
theorem placeS_ok {b : List UInt8} {s : RS18} (h : OKS b s) : OKS b (placeS b s).2 := plcA_ok (plcN_ok (byteS_ok h))
theorem plcsS_ok {b : List UInt8} : ∀ (n : Nat) {s : RS18}, OKS b s → OKS b (plcsS b n s).2
  | 0, s, h => h
  | n + 1, s, h => by
    unfold plcsS
    split
    · exact h
    · exact plcsS_ok n (placeS_ok h)
theorem byteS_rng (b : List UInt8) (s : RS18) : 0 ≤ (byteS b s).1 ∧ (byteS b s).1 ≤ 255 := by
  unfold byteS
  split
  · simp
  · split
    · simp
    · exact byteAt_lt b s.p
def PlcPostS (gr : Nat) (x : Value) (r : Plc × RS18) (w : World) (en : Ending) (w' : World) : Prop :=
  en = .returned (.agg #[.int .i64 r.1.kind, .int .i64 r.1.n, .int .i64 r.1.add]) ∧ RBlk gr x r.2 w' ∧ Kept w.heap.size [gr] w w'
theorem RBlk.read {gr g : Nat} {x : Value} {s : RS18} {w W : World} {cs : Array Value} {t : TypeId} (h : RBlk gr x s w) (hb : w.heap[g]? = some (.cells cs t (0, 0))) (hne : t ≠ 135) (hg : w.grownBy W (some g)) : RBlk gr x s W :=
  blk_grown h hg (fun e => blk_ne h hb (fun e2 => hne e2.symm) (by cases e; rfl))
set_option maxHeartbeats 40000000 in
set_option maxRecDepth 100000 in
theorem readPlace_any (gr : Nat) (x : Value) (b : List UInt8) (s : RS18) (w : World) (hx : St [gr] w (fun W => InB W x b)) (hb : RBlk gr x s w) (hs : OKS b s) (hl : b.length ≤ 1000000) :
    Calls Try.prog 112 #[.pointer (some ⟨gr, 0, none⟩)] w (PlcPostS gr x (placeS b s) w) := by
  have HX := Lib.hid hx
  have hgr := heap_lt hb
  clear hx
  go_enter Try.func112, Try.ntmps112
  go_upto_region 1 with fail
  have hA := (Ext.refl w).alloc (.cells #[.int .i64 0, .int .i64 0, .int .i64 0] 75)
  have hG2 := heap_alloc_new w (.cells #[.int .i64 0, .int .i64 0, .int .i64 0] 75)
  have hb1 : RBlk gr x s (w.alloc (.cells #[.int .i64 0, .int .i64 0, .int .i64 0] 75)) := hA.heap hb
  obtain ⟨g2, hg2⟩ : ∃ g, g = w.heap.size := ⟨_, rfl⟩
  rw [← hg2] at hG2 ⊢
  have hR1 : BX 75 w gr g2 #[.int .i64 0, .int .i64 0, .int .i64 0] (w.alloc (.cells #[.int .i64 0, .int .i64 0, .int .i64 0] 75)) := ⟨hG2, Kept.of_ext hA (Nat.le_refl _), by omega, hgr⟩
  clear hA hG2 hg2 hb
  generalize w.alloc (.cells #[.int .i64 0, .int .i64 0, .int .i64 0] 75) = w1 at *
  have hmono : ∀ W, Kept w.heap.size [gr] w W → St [gr] W (fun W => InB W x b) := fun W hk => HX.out.mono hk (fun i hi => by simp only [List.mem_cons, List.not_mem_nil, or_false] at hi ⊢; omega)
  have HM := Lib.hid hmono
  clear hmono
  go_wp2_with fail
  refine (rByte_any gr x b s w1 (HM.out w1 hR1.kept) hb1 (fun h => by have := hs h; omega) hl).mono ?_
  rintro en w2 ⟨rfl, hb2, hg2⟩
  have hR2 := hR1.reader hg2
  obtain ⟨ks, hks⟩ : ∃ u, u = byteS b s := ⟨_, rfl⟩
  have hkr := byteS_rng b s
  have hok1 := byteS_ok hs
  rw [← hks] at hb2 hkr hok1 ⊢
  obtain ⟨k, s1⟩ := ks
  dsimp only at hb2 hkr hok1 ⊢
  have HPS : Hid (placeS b s = (⟨k % 8, (plcN b (k, s1)).1, (plcA b k (plcN b (k, s1)).2).1⟩, (plcA b k (plcN b (k, s1)).2).2)) := Lib.hid (by unfold placeS; rw [← hks])
  obtain ⟨kd, hkd, hkdr⟩ : ∃ m, k % 8 = m ∧ (0 ≤ m ∧ m ≤ 7) := ⟨_, rfl, by omega, by omega⟩
  have hrem : k.tmod 8 = kd := by rw [Int.tmod_eq_emod_of_nonneg hkr.1, hkd]
  have hwrem : IntKind.i64.wrap kd = kd := wrap_in19 (by omega)
  rw [hkd] at HPS
  have HKD := Lib.hid hkd
  clear hks hkd hR1 hb1 hg2
  obtain ⟨hst, hG, hXG⟩ := box_new (P := Try.prog) w2 75 #[.int .i64 0, .int .i64 0, .int .i64 0] #[.int .i64 kd, .int .i64 0, .int .i64 0] pc_size rfl (by simp [Value.oneCell'])
  go_upto_region 3 with first | refine wpList_store_run rfl 75 (.tmp 4) (.tmp 9) rfl _ _ _ rfl rfl hst ?_
  obtain ⟨g4, hg4⟩ : ∃ g, g = w2.heap.size := ⟨_, rfl⟩
  have hgl : w.heap.size ≤ g4 := by rw [hg4]; exact hR2.kept.size
  have hne42 : g4 ≠ g2 := by have := heap_lt hR2.box; omega
  rw [← hg4] at hG hXG ⊢
  generalize (w2.alloc (.cells #[.int .i64 0, .int .i64 0, .int .i64 0] 75)).setRow g4 #[.int .i64 kd, .int .i64 0, .int .i64 0] = w3 at *
  try dsimp only [Act.put]
  have hR3 := hR2.ext hXG
  have hP3 : BX 75 w gr g4 #[.int .i64 kd, .int .i64 0, .int .i64 0] w3 := ⟨hG, hR3.kept, hgl, hgr⟩
  have hb3 : RBlk gr x s1 w3 := hXG.heap hb2
  clear hst hG hXG hg4 hR2 hb2 hrem hwrem
  obtain ⟨c0, c1, c2⟩ := blk3' hb3
  obtain ⟨y0, y1, y2⟩ := blk3 hP3.box
  go_cut [28] (fun sv wx => ∃ d : Bool, sv = .bool d ∧ (d = true ↔ s1.e = 0 ∧ (15 < k ∨ kd < 1 ∨ 4 < kd)) ∧ wx = w3)
  case first =>
    by_cases he : s1.e = 0
    case neg =>
      have e1 : (s1.e == 0) = false := by simpa using he
      have HE := Lib.hid he
      clear he
      go_wp2_with fail
      go_meet
      exact ⟨false, rfl, ⟨fun h => (by cases h), fun h => absurd h.1 HE.out⟩, rfl⟩
    have e1 : (s1.e == 0) = true := by simpa using he
    have HE := Lib.hid he
    clear he
    by_cases a1 : 15 < k
    case pos =>
      have d1 : decide (15 < k) = true := by simpa using a1
      go_wp2_with fail
      go_meet
      exact ⟨true, rfl, ⟨fun _ => ⟨HE.out, by omega⟩, fun _ => rfl⟩, rfl⟩
    have d1 : decide (15 < k) = false := by simpa using a1
    by_cases a2 : kd < 1
    case pos =>
      have d2 : decide (kd < 1) = true := by simpa using a2
      go_wp2_with fail
      go_meet
      exact ⟨true, rfl, ⟨fun _ => ⟨HE.out, by omega⟩, fun _ => rfl⟩, rfl⟩
    have d2 : decide (kd < 1) = false := by simpa using a2
    by_cases a3 : 4 < kd
    case pos =>
      have d3 : decide (4 < kd) = true := by simpa using a3
      go_wp2_with fail
      go_meet
      exact ⟨true, rfl, ⟨fun _ => ⟨HE.out, by omega⟩, fun _ => rfl⟩, rfl⟩
    have d3 : decide (4 < kd) = false := by simpa using a3
    go_wp2_with fail
    go_meet
    exact ⟨false, rfl, ⟨fun h => (by cases h), fun h => (by omega)⟩, rfl⟩
  obtain ⟨d, rfl, hd, hwe⟩ := hcut
  subst hwe
  obtain ⟨w3, rfl⟩ : ∃ W : World, W = wc := ⟨_, rfl⟩
  have HDD := Lib.hid hd
  clear hd
  go_upto_if 28 with fail
  go_cut [28] (fun _ wx => RBlk gr x (plcF (k, s1)) wx ∧ w3.grownBy wx (some gr))
  case first =>
    cases d with
    | false =>
      have HF : Hid (plcF (k, s1) = s1) := Lib.hid (by
        unfold plcF
        rw [if_neg]
        intro h
        have h1 := h.1
        have h2 := h.2
        simp only at h1 h2
        have h3 := HKD.out
        have := HDD.out.2 ⟨h1, by omega⟩
        cases this)
      go_wp2_with fail
      go_meet
      exact ⟨by rw [HF.out]; exact hb3, (Ext.refl w3).grownBy _⟩
    | true =>
      have HF : Hid (plcF (k, s1) = failS 4 s1) := Lib.hid (by
        obtain ⟨h1, h2⟩ := HDD.out.1 rfl
        unfold plcF
        rw [if_pos ⟨h1, by simp only; have := HKD.out; omega⟩])
      go_wp2_with fail
      refine (rFail_any gr x 4 s1 w3 hb3).mono ?_
      rintro en wf ⟨⟨vf, rfl⟩, hbf, hgf⟩
      go_wp2_with fail
      go_meet
      exact ⟨by rw [HF.out]; exact hbf, hgf⟩
  obtain ⟨hbF, hgF⟩ := hcut
  obtain ⟨w4, rfl⟩ : ∃ W : World, W = wc := ⟨_, rfl⟩
  have hR4 := hR3.reader hgF
  have hP4 := hP3.reader hgF
  have hokF := plcF_ok (k := (k, s1)) hok1
  have HOK1 := Lib.hid hok1
  obtain ⟨sF, hsF⟩ : ∃ z, z = plcF (k, s1) := ⟨_, rfl⟩
  have HPN : Hid (plcN b (k, s1) = if kd ≠ 1 then smallS b sF else (0, sF)) := Lib.hid (by unfold plcN; rw [← hsF]; simp only; rw [HKD.out])
  rw [← hsF] at hbF hokF
  clear hR3 hP3 hb3 c0 c1 c2 y0 y1 y2 hgF hsF hok1
  obtain ⟨y0, y1, y2⟩ := blk3 hP4.box
  go_upto_if 33 with fail
  go_cut [33] (fun _ wx => RBlk gr x (plcN b (k, s1)).2 wx ∧ BX 75 w gr g4 #[.int .i64 kd, .int .i64 (plcN b (k, s1)).1, .int .i64 0] wx ∧ w4.heap.size ≤ wx.heap.size ∧ BX 75 w gr g2 #[.int .i64 0, .int .i64 0, .int .i64 0] wx)
  case first =>
    by_cases h1 : kd = 1
    · have d1 : (kd != 1) = false := by simpa using h1
      have HQ : Hid (plcN b (k, s1) = (0, sF)) := Lib.hid (by rw [HPN.out, if_neg (by simpa using h1)])
      clear h1
      go_wp2_with fail
      go_meet
      rw [HQ.out]
      exact ⟨hbF, hP4, Nat.le_refl _, hR4⟩
    · have d1 : (kd != 1) = true := by simpa using h1
      have HQ : Hid (plcN b (k, s1) = smallS b sF) := Lib.hid (by rw [HPN.out, if_pos h1])
      clear h1
      go_wp2_with fail
      refine (rSmall_any gr x b sF w4 (HM.out w4 hP4.kept w4 (Kept.refl _ _ _)) hbF hl).mono ?_
      rintro en w5 ⟨rfl, hb5, hg5⟩
      have hR5 := hR4.reader hg5
      have hP5 := hP4.reader hg5
      rw [← HQ.out] at hb5 ⊢
      have f1 := blk_free hP5.box 1
      have u1 := blk_at hP5.box 1 _ rfl
      have hltb := heap_lt hP5.box
      generalize plcN b (k, s1) = zn at *
      obtain ⟨vn, sn⟩ := zn
      dsimp only at hb5 ⊢
      clear y0 y1 y2
      go_wp2_with fail
      go_meet
      have s5 := gset w5 ⟨g4, 1, none⟩ (.int .i64 vn)
      exact ⟨hb5.read hP5.box (by decide) s5, hP5.put 1 (.int .i64 vn), Nat.le_trans hg5.size s5.size, hR5.grown s5 (fun e => hne42 (by cases e; rfl)) (fun k e => by cases e; exact .inl hgl)⟩
  obtain ⟨hb6, hP6, hsz6, hR6⟩ := hcut
  obtain ⟨w6, rfl⟩ : ∃ W : World, W = wc := ⟨_, rfl⟩
  have hokN := plcN_ok (b := b) (k := (k, s1)) HOK1.out
  obtain ⟨sn, hsn⟩ : ∃ z, z = plcN b (k, s1) := ⟨_, rfl⟩
  rw [← hsn] at hb6 hP6 hokN HPS
  clear HPN hsn hbF hR4 hP4 y0 y1 y2 hokF HOK1 hsz6
  obtain ⟨vn, s6⟩ := sn
  dsimp only at hb6 hP6 hokN HPS
  obtain ⟨c0, c1, c2⟩ := blk3' hb6
  go_upto_region 7 with fail
  go_cut [45] (fun sv wx => ∃ d : Bool, sv = .bool d ∧ (d = true ↔ 8 ≤ k ∧ s6.e = 0) ∧ wx = w6)
  case first =>
    by_cases h8 : 8 ≤ k
    case neg =>
      have d8 : decide (8 ≤ k) = false := by simpa using h8
      have HE := Lib.hid h8
      clear h8
      go_wp2_with fail
      go_meet
      exact ⟨false, rfl, ⟨fun h => (by cases h), fun h => (by have := HE.out; omega)⟩, rfl⟩
    have d8 : decide (8 ≤ k) = true := by simpa using h8
    have H8 := Lib.hid h8
    by_cases he : s6.e = 0
    case neg =>
      have e1 : (s6.e == 0) = false := by simpa using he
      have HE := Lib.hid he
      clear h8 he
      go_wp2_with fail
      go_meet
      exact ⟨false, rfl, ⟨fun h => (by cases h), fun h => absurd h.2 HE.out⟩, rfl⟩
    have e1 : (s6.e == 0) = true := by simpa using he
    have HE := Lib.hid he
    clear h8 he
    go_wp2_with fail
    go_meet
    exact ⟨true, rfl, ⟨fun _ => ⟨H8.out, HE.out⟩, fun _ => rfl⟩, rfl⟩
  obtain ⟨d, rfl, hd, hwe⟩ := hcut
  subst hwe
  obtain ⟨w6, rfl⟩ : ∃ W : World, W = wc := ⟨_, rfl⟩
  have HDD := Lib.hid hd
  clear hd
  go_upto_if 45 with fail
  go_cut [45] (fun _ wx => RBlk gr x (plcA b k s6).2 wx ∧ BX 75 w gr g4 #[.int .i64 kd, .int .i64 vn, .int .i64 (plcA b k s6).1] wx ∧ BX 75 w gr g2 #[.int .i64 0, .int .i64 0, .int .i64 0] wx)
  case first =>
    cases d with
    | false =>
      have HQ : Hid (plcA b k s6 = (0, s6)) := Lib.hid (by unfold plcA; rw [if_neg (fun h => by have := HDD.out.2 h; cases this)])
      go_wp2_with fail
      go_meet
      rw [HQ.out]
      exact ⟨hb6, hP6, hR6⟩
    | true =>
    obtain ⟨h8, he⟩ := HDD.out.1 rfl
    have HQ : Hid (plcA b k s6 = addF (intS b s6)) := Lib.hid (by unfold plcA; rw [if_pos ⟨h8, he⟩])
    clear h8 he
    go_wp2_with fail
    refine (rInt_any gr x b s6 w6 (HM.out w6 hP6.kept w6 (Kept.refl _ _ _)) hb6 hl).mono ?_
    rintro en w7 ⟨rfl, hb7, hg7⟩
    have hR7 := hR6.reader hg7
    have hP7 := hP6.reader hg7
    generalize intS b s6 = zi at *
    obtain ⟨vi, si⟩ := zi
    dsimp only at hb7 ⊢
    have f2 := blk_free hP7.box 2
    have u2 := blk_at hP7.box 2 _ rfl
    have hltb := heap_lt hP7.box
    clear c0 c1 c2 hR6 hP6 hb6 hg7
    go_upto_region 9 with fail
    have s7 := gset w7 ⟨g4, 2, none⟩ (.int .i64 vi)
    have hb8 := hb7.read hP7.box (by decide) s7
    have hP8 : BX 75 w gr g4 #[.int .i64 kd, .int .i64 vn, .int .i64 vi] (w7.setCell ⟨g4, 2, none⟩ (.int .i64 vi)) := hP7.put 2 (.int .i64 vi)
    have hR8 := hR7.grown s7 (fun e => hne42 (by cases e; rfl)) (fun k e => by cases e; exact .inl hgl)
    clear s7 hb7 hP7 hR7 f2 u2 hltb
    generalize w7.setCell ⟨g4, 2, none⟩ (.int .i64 vi) = w8 at *
    obtain ⟨c0, c1, c2⟩ := blk3' hb8
    obtain ⟨y0, y1, y2⟩ := blk3 hP8.box
    by_cases he : si.e = 0
    case neg =>
      have e1 : (si.e == 0) = false := by simpa using he
      have HQ2 : Hid (plcA b k s6 = (vi, si)) := Lib.hid (by rw [HQ.out]; unfold addF; rw [if_neg (fun h => he h.1)])
      clear he
      go_wp2_with fail
      go_meet
      rw [HQ2.out]
      exact ⟨hb8, hP8, hR8⟩
    have e1 : (si.e == 0) = true := by simpa using he
    by_cases hv0 : vi = 0
    · have e2 : (vi == 0) = true := by simpa using hv0
      have HQ2 : Hid (plcA b k s6 = (vi, failS 4 si)) := Lib.hid (by rw [HQ.out]; unfold addF; rw [if_pos ⟨he, hv0⟩])
      clear he hv0
      go_wp2_with fail
      refine (rFail_any gr x 4 si w8 hb8).mono ?_
      rintro en wf ⟨⟨vf, rfl⟩, hbf, hgf⟩
      go_wp2_with fail
      go_meet
      rw [HQ2.out]
      exact ⟨hbf, hP8.reader hgf, hR8.reader hgf⟩
    · have e2 : (vi == 0) = false := by simpa using hv0
      have HQ2 : Hid (plcA b k s6 = (vi, si)) := Lib.hid (by rw [HQ.out]; unfold addF; rw [if_neg (fun h => hv0 h.2)])
      clear he hv0
      go_wp2_with fail
      go_meet
      rw [HQ2.out]
      exact ⟨hb8, hP8, hR8⟩
  obtain ⟨hb9, hP9, hR9⟩ := hcut
  obtain ⟨w9, rfl⟩ : ∃ W : World, W = wc := ⟨_, rfl⟩
  clear c0 c1 c2 hR6 hP6 hb6
  obtain ⟨sa, hsa⟩ : ∃ z, z = plcA b k s6 := ⟨_, rfl⟩
  rw [← hsa] at hb9 hP9 HPS
  clear hsa
  obtain ⟨va, s9⟩ := sa
  dsimp only at hb9 hP9 HPS
  have hldt := run_loadAt_blk (P := Try.prog) w9 g4 75 75 _ (0, 0) _ hP9.box Try.underlying75 rfl pc_size
  have hstt := run_storeAt_blk (P := Try.prog) w9 g2 75 75 _ #[.int .i64 kd, .int .i64 vn, .int .i64 va] hR9.box pc_size rfl (by simp [Value.oneCell'])
  go_wp2_with first | refine wpList_load_run rfl 75 (.tmp 4) rfl _ _ rfl hldt ?_ | refine wpList_store_run rfl 75 (.tmp 2) (.tmp 61) rfl _ _ _ rfl rfl hstt ?_
  have hZ9 := setRow_heap w9 g2 _ #[.int .i64 kd, .int .i64 vn, .int .i64 va] _ _ hR9.box
  have s9r := gsetRow w9 g2 #[.int .i64 kd, .int .i64 vn, .int .i64 va]
  have hk9 := hR9.kept.trans (Kept.of_grown s9r hR9.kept.size (fun k e => by cases e; exact .inl hR9.low.1))
  have hrd9 := hb9.read hR9.box (by decide) s9r
  clear hldt hstt s9r hb9 hP9 hR9
  generalize w9.setRow g2 #[.int .i64 kd, .int .i64 vn, .int .i64 va] = wz at *
  obtain ⟨k0, k1, k2⟩ := blk3 hZ9
  refine bodyPost_ret (v := .agg #[.int .i64 kd, .int .i64 vn, .int .i64 va]) (by simp [results, Try.results112, go_sem, k0, k1, k2]) rfl ?_
  rw [HPS.out]
  exact ⟨rfl, hrd9, hk9⟩
end Go.Proofs.Ytokmbdeafjmcjaa
