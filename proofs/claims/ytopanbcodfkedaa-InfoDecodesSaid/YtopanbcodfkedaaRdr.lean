/- The specification's reader: its numbers. -/
import Derived.Test.YtopanbcodfkedaaWireE
import Derived.Test.YtopanbcodfkedaaPlain3
import Derived.Test.YtopanbcodfkedaaInfI
namespace Go.Proofs.Ytopanbcodfkedaa
open Go.RowKit
set_option linter.unusedVariables false
set_option linter.unusedSimpArgs false

/-- place and error -/
structure RS18 where
  p : Int
  e : Int
def failS (er : Int) (s : RS18) : RS18 := if s.e = 0 then ⟨s.p, er⟩ else s
def uintS (b : List UInt8) (s : RS18) : Int × RS18 := if s.e ≠ 0 then (0, s) else if (uintR b s.p).2.2 ≠ 0 then (0, ⟨s.p, (uintR b s.p).2.2⟩) else ((uintR b s.p).1, ⟨(uintR b s.p).2.1, 0⟩)
def smallS (b : List UInt8) (s : RS18) : Int × RS18 := if 1099511627776 < (uintS b s).1 then ((uintS b s).1, failS 2 (uintS b s).2) else uintS b s
theorem uintS_range (b : List UInt8) (s : RS18) : 0 ≤ (uintS b s).1 ∧ (uintS b s).1 ≤ 9223372036854775807 := by
  unfold uintS
  split
  · simp
  · split
    · simp
    · rename_i h
      have := uintR_inv (l := b) (p := s.p) (by simpa using h)
      simp only
      omega
theorem smallS_range (b : List UInt8) (s : RS18) : 0 ≤ (smallS b s).1 ∧ (smallS b s).1 ≤ 9223372036854775807 := by
  unfold smallS
  have := uintS_range b s
  split
  · simpa using this
  · exact this
def RBlk (gr : Nat) (x : Value) (s : RS18) (W : World) : Prop := W.heap[gr]? = some (.cells #[x, .int .i64 s.p, .int .i64 s.e] 107 (0, 0))
def RdS (gr : Nat) (x : Value) (r : Int × RS18) (w : World) (en : Ending) (w' : World) : Prop := en = .returned (.int .i64 r.1) ∧ RBlk gr x r.2 w' ∧ w.grownBy w' (some gr)
theorem blk3' {w : World} {g : Nat} {a b c : Value} {t : TypeId} (H : w.heap[g]? = some (.cells #[a, b, c] t (0, 0))) : w.cell? ⟨g, 0, none⟩ = some a ∧ w.cell? ⟨g, 1, none⟩ = some b ∧ w.cell? ⟨g, 2, none⟩ = some c := ⟨blk_at H 0 _ rfl, blk_at H 1 _ rfl, blk_at H 2 _ rfl⟩
set_option maxHeartbeats 4000000 in
set_option maxRecDepth 100000 in
theorem rUint_any (gr : Nat) (x : Value) (b : List UInt8) (s : RS18) (w : World) (hx : InB w x b) (hb : RBlk gr x s w) (hl : b.length ≤ 1000000) :
    Calls Try.prog 54 #[.pointer (some ⟨gr, 0, none⟩)] w (RdS gr x (uintS b s) w) := by
  obtain ⟨A, c, rfl, _, _⟩ := id hx
  obtain ⟨n0, hn0⟩ : ∃ n0, n0 = b.length := ⟨_, rfl⟩
  unfold RBlk at hb
  rw [← hn0] at hb
  obtain ⟨p, er0⟩ := s
  dsimp only at hb
  obtain ⟨c0, c1, c2⟩ := blk3' hb
  have HN0 := Lib.hid hn0
  obtain ⟨X, hX⟩ : ∃ X, X = Value.slice A n0 c := ⟨_, rfl⟩
  have hXe : Value.slice A b.length c = X := by rw [hX, hn0]
  rw [hXe]
  have HXE := Lib.hid hX
  clear hn0 hXe hX
  go_enter Try.func54, Try.ntmps54
  by_cases h0 : er0 = 0
  case neg =>
    have e0 : (er0 != 0) = true := by simpa using h0
    have HP : Hid (uintS b ⟨p, er0⟩ = (0, ⟨p, er0⟩)) := Lib.hid (by unfold uintS; rw [if_pos h0])
    clear h0
    go_wp2_with fail
    go_ret
    rw [HP.out]
    exact ⟨rfl, by unfold RBlk; rw [HXE.out]; exact hb, ⟨rfl, rfl, rfl, Nat.le_refl _, fun _ _ _ => rfl⟩⟩
  subst h0
  have e0 : ((0 : Int) != 0) = false := rfl
  obtain ⟨v, next, er, hr⟩ : ∃ v next er, uintR b p = (v, next, er) := ⟨_, _, _, rfl⟩
  have HR := Lib.hid hr
  clear hr
  go_upto_region 3 with fail
  refine wp_region_X #[true, true, true, true, true, true, true, true, true, true, true, true, true, false, false, false] 13 3 (by kernel_rfl) rfl ?_
  refine wpX_vt 0 (.pointer (some ⟨gr, 0, none⟩)) rfl rfl (by kernel_rfl) (by kernel_rfl) (by kernel_rfl) (fun _ _ _ _ h => h) (by kernel_rfl) rfl (by rfl) (fun W' hW => by
    skip
    go_simp) ?_
  simp only [List.setIfInBounds_toArray, List.set_cons_zero, List.set_cons_succ]
  refine wpX_vt 1 (.pointer (some ⟨gr, 0, none⟩)) rfl rfl (by kernel_rfl) (by kernel_rfl) (by kernel_rfl) (fun _ _ _ _ h => h) (by kernel_rfl) rfl (by rfl) (fun W' hW => by
    skip
    go_simp) ?_
  simp only [List.setIfInBounds_toArray, List.set_cons_zero, List.set_cons_succ]
  refine wpX_vt 2 (.pointer (some ⟨gr, 0, none⟩)) rfl rfl (by kernel_rfl) (by kernel_rfl) (by kernel_rfl) (fun _ _ _ _ h => h) (by kernel_rfl) rfl (by rfl) (fun W' hW => by
    skip
    go_simp) ?_
  simp only [List.setIfInBounds_toArray, List.set_cons_zero, List.set_cons_succ]
  refine wpX_vt 3 (.slice A n0 c) rfl rfl (by kernel_rfl) (by kernel_rfl) (by kernel_rfl) (fun _ _ _ _ h => h) (by kernel_rfl) rfl (by rfl) (fun W' hW => by
    have z := (((Ext.refl w).drew).trans hW).cell c0
    go_simp) ?_
  simp only [List.setIfInBounds_toArray, List.set_cons_zero, List.set_cons_succ]
  refine wpX_vt 4 (.pointer (some ⟨gr, 0, none⟩)) rfl rfl (by kernel_rfl) (by kernel_rfl) (by kernel_rfl) (fun _ _ _ _ h => h) (by kernel_rfl) rfl (by rfl) (fun W' hW => by
    skip
    go_simp) ?_
  simp only [List.setIfInBounds_toArray, List.set_cons_zero, List.set_cons_succ]
  refine wpX_vt 5 (.pointer (some ⟨gr, 0, none⟩)) rfl rfl (by kernel_rfl) (by kernel_rfl) (by kernel_rfl) (fun _ _ _ _ h => h) (by kernel_rfl) rfl (by rfl) (fun W' hW => by
    skip
    go_simp) ?_
  simp only [List.setIfInBounds_toArray, List.set_cons_zero, List.set_cons_succ]
  refine wpX_vt 6 (.pointer (some ⟨gr, 1, none⟩)) rfl rfl (by kernel_rfl) (by kernel_rfl) (by kernel_rfl) (fun _ _ _ _ h => h) (by kernel_rfl) rfl (by rfl) (fun W' hW => by
    skip
    go_simp) ?_
  simp only [List.setIfInBounds_toArray, List.set_cons_zero, List.set_cons_succ]
  refine wpX_vt 7 (.int .i64 p) rfl rfl (by kernel_rfl) (by kernel_rfl) (by kernel_rfl) (fun _ _ _ _ h => h) (by kernel_rfl) rfl (by rfl) (fun W' hW => by
    have z := (((Ext.refl w).drew).trans hW).cell c1
    go_simp) ?_
  simp only [List.setIfInBounds_toArray, List.set_cons_zero, List.set_cons_succ]
  refine wpX_c 8 60 #[.slice A n0 c, .int .i64 p] rfl rfl (by kernel_rfl) rfl rfl (fun W => by go_simp) ?_
  intro W1 hW1
  have hX1 := ((Ext.refl w).drew).trans hW1
  have hx1 : InB W1 (.slice A n0 c) b := by rw [HN0.out]; exact hx.ext hX1
  refine (refUint_any _ b p W1 hx1 (by omega)).mono ?_
  rw [HR.out]
  rintro en w5 ⟨rfl, rfl⟩
  refine ⟨_, rfl, Ext.refl _, ?_⟩
  simp only [List.setIfInBounds_toArray, List.set_cons_zero, List.set_cons_succ]
  refine wpX_vt 9 (.tuple #[.int .i64 v, .int .i64 next, .int .i64 er]) rfl rfl (by kernel_rfl) (by kernel_rfl) (by kernel_rfl) (fun _ _ _ _ h => h) (by kernel_rfl) rfl (by rfl) (fun W' hW => by
    skip
    go_simp) ?_
  simp only [List.setIfInBounds_toArray, List.set_cons_zero, List.set_cons_succ]
  refine wpX_vt 10 (.int .i64 v) rfl rfl (by kernel_rfl) (by kernel_rfl) (by kernel_rfl) (fun _ _ _ _ h => h) (by kernel_rfl) rfl (by rfl) (fun W' hW => by
    skip
    go_simp) ?_
  simp only [List.setIfInBounds_toArray, List.set_cons_zero, List.set_cons_succ]
  refine wpX_l 11 (.int .i64 next) rfl rfl (by kernel_rfl) (by kernel_rfl) (by kernel_rfl) (fun _ _ _ _ h => h) (LateOK_any rfl (by kernel_rfl) (fun _ _ _ h => h)) rfl (by rfl) (fun W' => by go_simp) ?_
  simp only [List.setIfInBounds_toArray, List.set_cons_zero, List.set_cons_succ]
  refine wpX_l 12 (.int .i64 er) rfl rfl (by kernel_rfl) (by kernel_rfl) (by kernel_rfl) (fun _ _ _ _ h => h) (LateOK_any rfl (by kernel_rfl) (fun _ _ _ h => h)) rfl (by rfl) (fun W' => by go_simp) ?_
  simp only [List.setIfInBounds_toArray, List.set_cons_zero, List.set_cons_succ]
  refine wpX_end rfl fun W7 hW7 => tail_seq 13 rfl (by kernel_rfl) ?_
  simp only [List.drop_succ_cons, List.drop_zero]
  have hX7 := hX1.trans hW7
  have hb7 := hX7.heap hb
  have f1 := blk_free hb7 1
  have f2 := blk_free hb7 2
  obtain ⟨k0, k1, k2⟩ := blk3' hb7
  have hlt := heap_lt hb7
  clear hW1 hX1 hW7 c0 c1 c2 hx1 hb
  go_wp2_with fail
  refine NoPanic.normal ?_
  by_cases h0 : er = 0
  · have e1 : (er != 0) = false := by simpa using h0
    have HP : Hid (uintS b ⟨p, 0⟩ = (v, ⟨next, 0⟩)) := Lib.hid (by unfold uintS; simp only [HR.out, h0]; rfl)
    clear h0
    go_wp2_with fail
    go_ret
    rw [HP.out]
    refine ⟨rfl, ?_, gtrans (hX7.grownBy (some gr)) (gset _ _ _)⟩
    unfold RBlk
    rw [HXE.out]
    exact blk_set hb7 1 (.int .i64 next)
  · have e1 : (er != 0) = true := by simpa using h0
    have HP : Hid (uintS b ⟨p, 0⟩ = (0, ⟨p, er⟩)) := Lib.hid (by unfold uintS; simp only [HR.out]; rw [if_neg (by simp), if_pos h0])
    clear h0
    go_wp2_with fail
    go_ret
    rw [HP.out]
    refine ⟨rfl, ?_, gtrans (hX7.grownBy (some gr)) (gset _ _ _)⟩
    unfold RBlk
    rw [HXE.out]
    exact blk_set hb7 2 (.int .i64 er)
def FailPost (gr : Nat) (x : Value) (s : RS18) (w : World) (en : Ending) (w' : World) : Prop := (∃ v, en = .returned v) ∧ RBlk gr x s w' ∧ w.grownBy w' (some gr)
set_option maxHeartbeats 4000000 in
set_option maxRecDepth 100000 in
theorem rFail_any (gr : Nat) (x : Value) (er : Int) (s : RS18) (w : World) (hb : RBlk gr x s w) :
    Calls Try.prog 48 #[.pointer (some ⟨gr, 0, none⟩), .int .i64 er] w (FailPost gr x (failS er s) w) := by
  unfold RBlk at hb
  obtain ⟨p, er0⟩ := s
  dsimp only at hb
  obtain ⟨c0, c1, c2⟩ := blk3' hb
  have f2 := blk_free hb 2
  have hlt := heap_lt hb
  go_enter Try.func48, Try.ntmps48
  by_cases h0 : er0 = 0
  · have e0 : (er0 == 0) = true := by simpa using h0
    have HP : Hid (failS er ⟨p, er0⟩ = ⟨p, er⟩) := Lib.hid (by unfold failS; rw [if_pos h0])
    clear h0
    go_wp2_with fail
    refine bodyPost_ret (results_none rfl _ _ _) rfl ?_
    rw [HP.out]
    exact ⟨⟨_, rfl⟩, blk_set hb 2 (.int .i64 er), gset _ _ _⟩
  · have e0 : (er0 == 0) = false := by simpa using h0
    have HP : Hid (failS er ⟨p, er0⟩ = ⟨p, er0⟩) := Lib.hid (by unfold failS; rw [if_neg h0])
    clear h0
    go_wp2_with fail
    refine bodyPost_ret (results_none rfl _ _ _) rfl ?_
    rw [HP.out]
    exact ⟨⟨_, rfl⟩, hb, ⟨rfl, rfl, rfl, Nat.le_refl _, fun _ _ _ => rfl⟩⟩
set_option maxHeartbeats 4000000 in
set_option maxRecDepth 100000 in
theorem rSmall_any (gr : Nat) (x : Value) (b : List UInt8) (s : RS18) (w : World) (hx : InB w x b) (hb : RBlk gr x s w) (hl : b.length ≤ 1000000) :
    Calls Try.prog 61 #[.pointer (some ⟨gr, 0, none⟩)] w (RdS gr x (smallS b s) w) := by
  go_enter Try.func61, Try.ntmps61
  go_wp2_with fail
  refine (rUint_any gr x b s w hx hb hl).mono ?_
  rintro en w2 ⟨rfl, hb2, hg2⟩
  obtain ⟨⟨v, s1⟩, hu⟩ : ∃ u, u = uintS b s := ⟨_, rfl⟩
  rw [← hu] at hb2 ⊢
  dsimp only at hb2 ⊢
  by_cases hf : 1099511627776 < v
  · have d : decide (1099511627776 < v) = true := by simpa using hf
    have HP : Hid (smallS b s = (v, failS 2 s1)) := Lib.hid (by unfold smallS; rw [← hu, if_pos hf])
    clear hf hu
    go_wp2_with fail
    refine (rFail_any gr x 2 s1 w2 hb2).mono ?_
    rintro en w3 ⟨⟨v3, rfl⟩, hb3, hg3⟩
    go_wp2_with fail
    go_ret
    rw [HP.out]
    exact ⟨rfl, hb3, gtrans hg2 hg3⟩
  · have d : decide (1099511627776 < v) = false := by simpa using hf
    have HP : Hid (smallS b s = (v, s1)) := Lib.hid (by unfold smallS; rw [← hu, if_neg hf])
    clear hf hu
    go_wp2_with fail
    go_ret
    rw [HP.out]
    exact ⟨rfl, hb2, hg2⟩
def intS (b : List UInt8) (s : RS18) : Int × RS18 := if s.e ≠ 0 then (0, s) else if (intR b s.p).2.2 ≠ 0 then (0, ⟨s.p, (intR b s.p).2.2⟩) else ((intR b s.p).1, ⟨(intR b s.p).2.1, 0⟩)
set_option maxHeartbeats 4000000 in
set_option maxRecDepth 100000 in
theorem rInt_any (gr : Nat) (x : Value) (b : List UInt8) (s : RS18) (w : World) (hx : InB w x b) (hb : RBlk gr x s w) (hl : b.length ≤ 1000000) :
    Calls Try.prog 62 #[.pointer (some ⟨gr, 0, none⟩)] w (RdS gr x (intS b s) w) := by
  obtain ⟨A, c, rfl, _, _⟩ := id hx
  obtain ⟨n0, hn0⟩ : ∃ n0, n0 = b.length := ⟨_, rfl⟩
  unfold RBlk at hb
  rw [← hn0] at hb
  obtain ⟨p, er0⟩ := s
  dsimp only at hb
  obtain ⟨c0, c1, c2⟩ := blk3' hb
  have HN0 := Lib.hid hn0
  obtain ⟨X, hX⟩ : ∃ X, X = Value.slice A n0 c := ⟨_, rfl⟩
  have hXe : Value.slice A b.length c = X := by rw [hX, hn0]
  rw [hXe]
  have HXE := Lib.hid hX
  clear hn0 hXe hX
  go_enter Try.func62, Try.ntmps62
  by_cases h0 : er0 = 0
  case neg =>
    have e0 : (er0 != 0) = true := by simpa using h0
    have HP : Hid (intS b ⟨p, er0⟩ = (0, ⟨p, er0⟩)) := Lib.hid (by unfold intS; rw [if_pos h0])
    clear h0
    go_wp2_with fail
    go_ret
    rw [HP.out]
    exact ⟨rfl, by unfold RBlk; rw [HXE.out]; exact hb, ⟨rfl, rfl, rfl, Nat.le_refl _, fun _ _ _ => rfl⟩⟩
  subst h0
  have e0 : ((0 : Int) != 0) = false := rfl
  obtain ⟨v, next, er, hr⟩ : ∃ v next er, intR b p = (v, next, er) := ⟨_, _, _, rfl⟩
  have HR := Lib.hid hr
  clear hr
  go_upto_region 3 with fail
  refine wp_region_X #[true, true, true, true, true, true, true, true, true, true, true, true, true, false, false, false] 13 3 (by kernel_rfl) rfl ?_
  refine wpX_vt 0 (.pointer (some ⟨gr, 0, none⟩)) rfl rfl (by kernel_rfl) (by kernel_rfl) (by kernel_rfl) (fun _ _ _ _ h => h) (by kernel_rfl) rfl (by rfl) (fun W' hW => by
    skip
    go_simp) ?_
  simp only [List.setIfInBounds_toArray, List.set_cons_zero, List.set_cons_succ]
  refine wpX_vt 1 (.pointer (some ⟨gr, 0, none⟩)) rfl rfl (by kernel_rfl) (by kernel_rfl) (by kernel_rfl) (fun _ _ _ _ h => h) (by kernel_rfl) rfl (by rfl) (fun W' hW => by
    skip
    go_simp) ?_
  simp only [List.setIfInBounds_toArray, List.set_cons_zero, List.set_cons_succ]
  refine wpX_vt 2 (.pointer (some ⟨gr, 0, none⟩)) rfl rfl (by kernel_rfl) (by kernel_rfl) (by kernel_rfl) (fun _ _ _ _ h => h) (by kernel_rfl) rfl (by rfl) (fun W' hW => by
    skip
    go_simp) ?_
  simp only [List.setIfInBounds_toArray, List.set_cons_zero, List.set_cons_succ]
  refine wpX_vt 3 (.slice A n0 c) rfl rfl (by kernel_rfl) (by kernel_rfl) (by kernel_rfl) (fun _ _ _ _ h => h) (by kernel_rfl) rfl (by rfl) (fun W' hW => by
    have z := (((Ext.refl w).drew).trans hW).cell c0
    go_simp) ?_
  simp only [List.setIfInBounds_toArray, List.set_cons_zero, List.set_cons_succ]
  refine wpX_vt 4 (.pointer (some ⟨gr, 0, none⟩)) rfl rfl (by kernel_rfl) (by kernel_rfl) (by kernel_rfl) (fun _ _ _ _ h => h) (by kernel_rfl) rfl (by rfl) (fun W' hW => by
    skip
    go_simp) ?_
  simp only [List.setIfInBounds_toArray, List.set_cons_zero, List.set_cons_succ]
  refine wpX_vt 5 (.pointer (some ⟨gr, 0, none⟩)) rfl rfl (by kernel_rfl) (by kernel_rfl) (by kernel_rfl) (fun _ _ _ _ h => h) (by kernel_rfl) rfl (by rfl) (fun W' hW => by
    skip
    go_simp) ?_
  simp only [List.setIfInBounds_toArray, List.set_cons_zero, List.set_cons_succ]
  refine wpX_vt 6 (.pointer (some ⟨gr, 1, none⟩)) rfl rfl (by kernel_rfl) (by kernel_rfl) (by kernel_rfl) (fun _ _ _ _ h => h) (by kernel_rfl) rfl (by rfl) (fun W' hW => by
    skip
    go_simp) ?_
  simp only [List.setIfInBounds_toArray, List.set_cons_zero, List.set_cons_succ]
  refine wpX_vt 7 (.int .i64 p) rfl rfl (by kernel_rfl) (by kernel_rfl) (by kernel_rfl) (fun _ _ _ _ h => h) (by kernel_rfl) rfl (by rfl) (fun W' hW => by
    have z := (((Ext.refl w).drew).trans hW).cell c1
    go_simp) ?_
  simp only [List.setIfInBounds_toArray, List.set_cons_zero, List.set_cons_succ]
  refine wpX_c 8 66 #[.slice A n0 c, .int .i64 p] rfl rfl (by kernel_rfl) rfl rfl (fun W => by go_simp) ?_
  intro W1 hW1
  have hX1 := ((Ext.refl w).drew).trans hW1
  have hx1 : InB W1 (.slice A n0 c) b := by rw [HN0.out]; exact hx.ext hX1
  refine (refInt_any _ b p W1 hx1 (by omega)).mono ?_
  rw [HR.out]
  rintro en w5 ⟨rfl, rfl⟩
  refine ⟨_, rfl, Ext.refl _, ?_⟩
  simp only [List.setIfInBounds_toArray, List.set_cons_zero, List.set_cons_succ]
  refine wpX_vt 9 (.tuple #[.int .i64 v, .int .i64 next, .int .i64 er]) rfl rfl (by kernel_rfl) (by kernel_rfl) (by kernel_rfl) (fun _ _ _ _ h => h) (by kernel_rfl) rfl (by rfl) (fun W' hW => by
    skip
    go_simp) ?_
  simp only [List.setIfInBounds_toArray, List.set_cons_zero, List.set_cons_succ]
  refine wpX_vt 10 (.int .i64 v) rfl rfl (by kernel_rfl) (by kernel_rfl) (by kernel_rfl) (fun _ _ _ _ h => h) (by kernel_rfl) rfl (by rfl) (fun W' hW => by
    skip
    go_simp) ?_
  simp only [List.setIfInBounds_toArray, List.set_cons_zero, List.set_cons_succ]
  refine wpX_l 11 (.int .i64 next) rfl rfl (by kernel_rfl) (by kernel_rfl) (by kernel_rfl) (fun _ _ _ _ h => h) (LateOK_any rfl (by kernel_rfl) (fun _ _ _ h => h)) rfl (by rfl) (fun W' => by go_simp) ?_
  simp only [List.setIfInBounds_toArray, List.set_cons_zero, List.set_cons_succ]
  refine wpX_l 12 (.int .i64 er) rfl rfl (by kernel_rfl) (by kernel_rfl) (by kernel_rfl) (fun _ _ _ _ h => h) (LateOK_any rfl (by kernel_rfl) (fun _ _ _ h => h)) rfl (by rfl) (fun W' => by go_simp) ?_
  simp only [List.setIfInBounds_toArray, List.set_cons_zero, List.set_cons_succ]
  refine wpX_end rfl fun W7 hW7 => tail_seq 13 rfl (by kernel_rfl) ?_
  simp only [List.drop_succ_cons, List.drop_zero]
  have hX7 := hX1.trans hW7
  have hb7 := hX7.heap hb
  have f1 := blk_free hb7 1
  have f2 := blk_free hb7 2
  obtain ⟨k0, k1, k2⟩ := blk3' hb7
  have hlt := heap_lt hb7
  clear hW1 hX1 hW7 c0 c1 c2 hx1 hb
  go_wp2_with fail
  refine NoPanic.normal ?_
  by_cases h0 : er = 0
  · have e1 : (er != 0) = false := by simpa using h0
    have HP : Hid (intS b ⟨p, 0⟩ = (v, ⟨next, 0⟩)) := Lib.hid (by unfold intS; simp only [HR.out, h0]; rfl)
    clear h0
    go_wp2_with fail
    go_ret
    rw [HP.out]
    refine ⟨rfl, ?_, gtrans (hX7.grownBy (some gr)) (gset _ _ _)⟩
    unfold RBlk
    rw [HXE.out]
    exact blk_set hb7 1 (.int .i64 next)
  · have e1 : (er != 0) = true := by simpa using h0
    have HP : Hid (intS b ⟨p, 0⟩ = (0, ⟨p, er⟩)) := Lib.hid (by unfold intS; simp only [HR.out]; rw [if_neg (by simp), if_pos h0])
    clear h0
    go_wp2_with fail
    go_ret
    rw [HP.out]
    refine ⟨rfl, ?_, gtrans (hX7.grownBy (some gr)) (gset _ _ _)⟩
    unfold RBlk
    rw [HXE.out]
    exact blk_set hb7 2 (.int .i64 er)
/-- the reader stands in its bytes -/
def OKS (b : List UInt8) (s : RS18) : Prop := s.e = 0 → 0 ≤ s.p ∧ s.p ≤ b.length
theorem failS_ok {b : List UInt8} {s : RS18} {er : Int} (h : OKS b s) : OKS b (failS er s) := by
  unfold failS
  split
  · rename_i h1
    exact fun _ => h h1
  · exact h
theorem uintS_ok {b : List UInt8} {s : RS18} (h : OKS b s) : OKS b (uintS b s).2 := by
  unfold uintS
  split
  · exact h
  · split
    · rename_i h1
      exact fun h3 => absurd h3 h1
    · rename_i h1
      have h2 := uintR_next (l := b) (p := s.p) (by simpa using h1)
      intro _
      simp only
      omega
theorem intS_ok {b : List UInt8} {s : RS18} (h : OKS b s) : OKS b (intS b s).2 := by
  unfold intS
  split
  · exact h
  · split
    · rename_i h1
      exact fun h3 => absurd h3 h1
    · rename_i h1
      have h2 := intR_fwd (l := b) (p := s.p) (by simpa using h1)
      intro _
      simp only
      omega
theorem smallS_ok {b : List UInt8} {s : RS18} (h : OKS b s) : OKS b (smallS b s).2 := by
  unfold smallS
  split
  · exact failS_ok (uintS_ok h)
  · exact uintS_ok h
end Go.Proofs.Ytopanbcodfkedaa
