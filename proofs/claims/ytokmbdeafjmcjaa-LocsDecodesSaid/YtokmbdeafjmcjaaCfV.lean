/- The specification's reader: its numbers, and what ref.Decode computes (plain). -/
import Derived.Test.YtokmbdeafjmcjaaCfD
import Derived.Test.YtokmbdeafjmcjaaWireE
namespace Go.Proofs.Ytokmbdeafjmcjaa
open Go.RowKit
set_option linter.unusedVariables false
set_option linter.unusedSimpArgs false

/-- place and error -/
structure RS18 where
  p : Int
  e : Int
def failS (er : Int) (s : RS18) : RS18 := if s.e = 0 then ⟨s.p, er⟩ else s
def uintS (b : List UInt8) (s : RS18) : Int × RS18 := if s.e ≠ 0 then (0, s) else if (uintR b s.p).2.2 ≠ 0 then (0, ⟨s.p, (uintR b s.p).2.2⟩) else ((uintR b s.p).1, ⟨(uintR b s.p).2.1, 0⟩)
def smallS (b : List UInt8) (s : RS18) : Int × RS18 := if 1099511627776 < (uintS b s).1 then ((uintS b s).1, failS 2 (uintS b s).2) else uintS b s
def countS (b : List UInt8) (s : RS18) : Int × RS18 := if 8000 < (uintS b s).1 then (0, failS 5 (uintS b s).2) else uintS b s
theorem uintS_range (b : List UInt8) (s : RS18) : 0 ≤ (uintS b s).1 ∧ (uintS b s).1 ≤ 9223372036854775807 := by
  unfold uintS
  split
  · simp
  · split
    · simp
    · rename_i h
      have := uintR_inv (l := b) (p := s.p) (by simpa using h)
      simp only
      omega
theorem smallS_range (b : List UInt8) (s : RS18) : 0 ≤ (smallS b s).1 ∧ (smallS b s).1 ≤ 9223372036854775807 := by
  unfold smallS
  have := uintS_range b s
  split
  · simpa using this
  · exact this
theorem countS_range (b : List UInt8) (s : RS18) : 0 ≤ (countS b s).1 ∧ (countS b s).1 ≤ 8000 := by
  unfold countS
  have := uintS_range b s
  split
  · simp
  · omega
def RBlk (gr : Nat) (x : Value) (s : RS18) (W : World) : Prop := W.heap[gr]? = some (.cells #[x, .int .i64 s.p, .int .i64 s.e] 135 (0, 0))
def RdS (gr : Nat) (x : Value) (r : Int × RS18) (w : World) (en : Ending) (w' : World) : Prop := en = .returned (.int .i64 r.1) ∧ RBlk gr x r.2 w' ∧ w.grownBy w' (some gr)
theorem blk3' {w : World} {g : Nat} {a b c : Value} {t : TypeId} (H : w.heap[g]? = some (.cells #[a, b, c] t (0, 0))) : w.cell? ⟨g, 0, none⟩ = some a ∧ w.cell? ⟨g, 1, none⟩ = some b ∧ w.cell? ⟨g, 2, none⟩ = some c := ⟨blk_at H 0 _ rfl, blk_at H 1 _ rfl, blk_at H 2 _ rfl⟩
set_option maxHeartbeats 4000000 in
set_option maxRecDepth 100000 in
theorem rUint_any (gr : Nat) (x : Value) (b : List UInt8) (s : RS18) (w : World) (hx : InB w x b) (hb : RBlk gr x s w) (hl : b.length ≤ 1000000) :
    Calls Try.prog 79 #[.pointer (some ⟨gr, 0, none⟩)] w (RdS gr x (uintS b s) w) := by
  obtain ⟨A, c, rfl, _, _⟩ := id hx
  obtain ⟨n0, hn0⟩ : ∃ n0, n0 = b.length := ⟨_, rfl⟩
  unfold RBlk at hb
  rw [← hn0] at hb
  obtain ⟨p, er0⟩ := s
  dsimp only at hb
  obtain ⟨c0, c1, c2⟩ := blk3' hb
  have HN0 := Lib.hid hn0
  obtain ⟨X, hX⟩ : ∃ X, X = Value.slice A n0 c := ⟨_, rfl⟩
  have hXe : Value.slice A b.length c = X := by rw [hX, hn0]
  rw [hXe]
  have HXE := Lib.hid hX
  clear hn0 hXe hX
  go_enter Try.func79, Try.ntmps79
  by_cases h0 : er0 = 0
  case neg =>
    have e0 : (er0 != 0) = true := by simpa using h0
    have HP : Hid (uintS b ⟨p, er0⟩ = (0, ⟨p, er0⟩)) := Lib.hid (by unfold uintS; rw [if_pos h0])
    clear h0
    go_wp2_with fail
    go_ret
    rw [HP.out]
    exact ⟨rfl, by unfold RBlk; rw [HXE.out]; exact hb, ⟨rfl, rfl, rfl, Nat.le_refl _, fun _ _ _ => rfl⟩⟩
  subst h0
  have e0 : ((0 : Int) != 0) = false := rfl
  obtain ⟨v, next, er, hr⟩ : ∃ v next er, uintR b p = (v, next, er) := ⟨_, _, _, rfl⟩
  have HR := Lib.hid hr
  clear hr
  go_upto_region 3 with fail
  refine wp_region_X #[true, true, true, true, true, true, true, true, true, true, true, true, true, false, false, false] 13 3 (by kernel_rfl) rfl ?_
  refine wpX_vt 0 (.pointer (some ⟨gr, 0, none⟩)) rfl rfl (by kernel_rfl) (by kernel_rfl) (by kernel_rfl) (fun _ _ _ _ h => h) (by kernel_rfl) rfl (by rfl) (fun W' hW => by
    skip
    go_simp) ?_
  simp only [List.setIfInBounds_toArray, List.set_cons_zero, List.set_cons_succ]
  refine wpX_vt 1 (.pointer (some ⟨gr, 0, none⟩)) rfl rfl (by kernel_rfl) (by kernel_rfl) (by kernel_rfl) (fun _ _ _ _ h => h) (by kernel_rfl) rfl (by rfl) (fun W' hW => by
    skip
    go_simp) ?_
  simp only [List.setIfInBounds_toArray, List.set_cons_zero, List.set_cons_succ]
  refine wpX_vt 2 (.pointer (some ⟨gr, 0, none⟩)) rfl rfl (by kernel_rfl) (by kernel_rfl) (by kernel_rfl) (fun _ _ _ _ h => h) (by kernel_rfl) rfl (by rfl) (fun W' hW => by
    skip
    go_simp) ?_
  simp only [List.setIfInBounds_toArray, List.set_cons_zero, List.set_cons_succ]
  refine wpX_vt 3 (.slice A n0 c) rfl rfl (by kernel_rfl) (by kernel_rfl) (by kernel_rfl) (fun _ _ _ _ h => h) (by kernel_rfl) rfl (by rfl) (fun W' hW => by
    have z := (((Ext.refl w).drew).trans hW).cell c0
    go_simp) ?_
  simp only [List.setIfInBounds_toArray, List.set_cons_zero, List.set_cons_succ]
  refine wpX_vt 4 (.pointer (some ⟨gr, 0, none⟩)) rfl rfl (by kernel_rfl) (by kernel_rfl) (by kernel_rfl) (fun _ _ _ _ h => h) (by kernel_rfl) rfl (by rfl) (fun W' hW => by
    skip
    go_simp) ?_
  simp only [List.setIfInBounds_toArray, List.set_cons_zero, List.set_cons_succ]
  refine wpX_vt 5 (.pointer (some ⟨gr, 0, none⟩)) rfl rfl (by kernel_rfl) (by kernel_rfl) (by kernel_rfl) (fun _ _ _ _ h => h) (by kernel_rfl) rfl (by rfl) (fun W' hW => by
    skip
    go_simp) ?_
  simp only [List.setIfInBounds_toArray, List.set_cons_zero, List.set_cons_succ]
  refine wpX_vt 6 (.pointer (some ⟨gr, 1, none⟩)) rfl rfl (by kernel_rfl) (by kernel_rfl) (by kernel_rfl) (fun _ _ _ _ h => h) (by kernel_rfl) rfl (by rfl) (fun W' hW => by
    skip
    go_simp) ?_
  simp only [List.setIfInBounds_toArray, List.set_cons_zero, List.set_cons_succ]
  refine wpX_vt 7 (.int .i64 p) rfl rfl (by kernel_rfl) (by kernel_rfl) (by kernel_rfl) (fun _ _ _ _ h => h) (by kernel_rfl) rfl (by rfl) (fun W' hW => by
    have z := (((Ext.refl w).drew).trans hW).cell c1
    go_simp) ?_
  simp only [List.setIfInBounds_toArray, List.set_cons_zero, List.set_cons_succ]
  refine wpX_c 8 102 #[.slice A n0 c, .int .i64 p] rfl rfl (by kernel_rfl) rfl rfl (fun W => by go_simp) ?_
  intro W1 hW1
  have hX1 := ((Ext.refl w).drew).trans hW1
  have hx1 : InB W1 (.slice A n0 c) b := by rw [HN0.out]; exact hx.ext hX1
  refine (refUint_any _ b p W1 hx1 (by omega)).mono ?_
  rw [HR.out]
  rintro en w5 ⟨rfl, rfl⟩
  refine ⟨_, rfl, Ext.refl _, ?_⟩
  simp only [List.setIfInBounds_toArray, List.set_cons_zero, List.set_cons_succ]
  refine wpX_vt 9 (.tuple #[.int .i64 v, .int .i64 next, .int .i64 er]) rfl rfl (by kernel_rfl) (by kernel_rfl) (by kernel_rfl) (fun _ _ _ _ h => h) (by kernel_rfl) rfl (by rfl) (fun W' hW => by
    skip
    go_simp) ?_
  simp only [List.setIfInBounds_toArray, List.set_cons_zero, List.set_cons_succ]
  refine wpX_vt 10 (.int .i64 v) rfl rfl (by kernel_rfl) (by kernel_rfl) (by kernel_rfl) (fun _ _ _ _ h => h) (by kernel_rfl) rfl (by rfl) (fun W' hW => by
    skip
    go_simp) ?_
  simp only [List.setIfInBounds_toArray, List.set_cons_zero, List.set_cons_succ]
  refine wpX_l 11 (.int .i64 next) rfl rfl (by kernel_rfl) (by kernel_rfl) (by kernel_rfl) (fun _ _ _ _ h => h) (LateOK_any rfl (by kernel_rfl) (fun _ _ _ h => h)) rfl (by rfl) (fun W' => by go_simp) ?_
  simp only [List.setIfInBounds_toArray, List.set_cons_zero, List.set_cons_succ]
  refine wpX_l 12 (.int .i64 er) rfl rfl (by kernel_rfl) (by kernel_rfl) (by kernel_rfl) (fun _ _ _ _ h => h) (LateOK_any rfl (by kernel_rfl) (fun _ _ _ h => h)) rfl (by rfl) (fun W' => by go_simp) ?_
  simp only [List.setIfInBounds_toArray, List.set_cons_zero, List.set_cons_succ]
  refine wpX_end rfl fun W7 hW7 => tail_seq 13 rfl (by kernel_rfl) ?_
  simp only [List.drop_succ_cons, List.drop_zero]
  have hX7 := hX1.trans hW7
  have hb7 := hX7.heap hb
  have f1 := blk_free hb7 1
  have f2 := blk_free hb7 2
  obtain ⟨k0, k1, k2⟩ := blk3' hb7
  have hlt := heap_lt hb7
  clear hW1 hX1 hW7 c0 c1 c2 hx1 hb
  go_wp2_with fail
  refine NoPanic.normal ?_
  by_cases h0 : er = 0
  · have e1 : (er != 0) = false := by simpa using h0
    have HP : Hid (uintS b ⟨p, 0⟩ = (v, ⟨next, 0⟩)) := Lib.hid (by unfold uintS; simp only [HR.out, h0]; rfl)
    clear h0
    go_wp2_with fail
    go_ret
    rw [HP.out]
    refine ⟨rfl, ?_, gtrans (Ext.grown0 hX7) (gset _ _ _)⟩
    unfold RBlk
    rw [HXE.out]
    exact blk_set hb7 1 (.int .i64 next)
  · have e1 : (er != 0) = true := by simpa using h0
    have HP : Hid (uintS b ⟨p, 0⟩ = (0, ⟨p, er⟩)) := Lib.hid (by unfold uintS; simp only [HR.out]; rw [if_neg (by simp), if_pos h0])
    clear h0
    go_wp2_with fail
    go_ret
    rw [HP.out]
    refine ⟨rfl, ?_, gtrans (Ext.grown0 hX7) (gset _ _ _)⟩
    unfold RBlk
    rw [HXE.out]
    exact blk_set hb7 2 (.int .i64 er)
def FailPost (gr : Nat) (x : Value) (s : RS18) (w : World) (en : Ending) (w' : World) : Prop := (∃ v, en = .returned v) ∧ RBlk gr x s w' ∧ w.grownBy w' (some gr)
set_option maxHeartbeats 4000000 in
set_option maxRecDepth 100000 in
theorem rFail_any (gr : Nat) (x : Value) (er : Int) (s : RS18) (w : World) (hb : RBlk gr x s w) :
    Calls Try.prog 80 #[.pointer (some ⟨gr, 0, none⟩), .int .i64 er] w (FailPost gr x (failS er s) w) := by
  unfold RBlk at hb
  obtain ⟨p, er0⟩ := s
  dsimp only at hb
  obtain ⟨c0, c1, c2⟩ := blk3' hb
  have f2 := blk_free hb 2
  have hlt := heap_lt hb
  go_enter Try.func80, Try.ntmps80
  by_cases h0 : er0 = 0
  · have e0 : (er0 == 0) = true := by simpa using h0
    have HP : Hid (failS er ⟨p, er0⟩ = ⟨p, er⟩) := Lib.hid (by unfold failS; rw [if_pos h0])
    clear h0
    go_wp2_with fail
    refine bodyPost_ret (results_none rfl _ _ _) rfl ?_
    rw [HP.out]
    exact ⟨⟨_, rfl⟩, blk_set hb 2 (.int .i64 er), gset _ _ _⟩
  · have e0 : (er0 == 0) = false := by simpa using h0
    have HP : Hid (failS er ⟨p, er0⟩ = ⟨p, er0⟩) := Lib.hid (by unfold failS; rw [if_neg h0])
    clear h0
    go_wp2_with fail
    refine bodyPost_ret (results_none rfl _ _ _) rfl ?_
    rw [HP.out]
    exact ⟨⟨_, rfl⟩, hb, ⟨rfl, rfl, rfl, Nat.le_refl _, fun _ _ _ => rfl⟩⟩
set_option maxHeartbeats 4000000 in
set_option maxRecDepth 100000 in
theorem rSmall_any (gr : Nat) (x : Value) (b : List UInt8) (s : RS18) (w : World) (hx : InB w x b) (hb : RBlk gr x s w) (hl : b.length ≤ 1000000) :
    Calls Try.prog 81 #[.pointer (some ⟨gr, 0, none⟩)] w (RdS gr x (smallS b s) w) := by
  go_enter Try.func81, Try.ntmps81
  go_wp2_with fail
  refine (rUint_any gr x b s w hx hb hl).mono ?_
  rintro en w2 ⟨rfl, hb2, hg2⟩
  obtain ⟨⟨v, s1⟩, hu⟩ : ∃ u, u = uintS b s := ⟨_, rfl⟩
  rw [← hu] at hb2 ⊢
  dsimp only at hb2 ⊢
  by_cases hf : 1099511627776 < v
  · have d : decide (1099511627776 < v) = true := by simpa using hf
    have HP : Hid (smallS b s = (v, failS 2 s1)) := Lib.hid (by unfold smallS; rw [← hu, if_pos hf])
    clear hf hu
    go_wp2_with fail
    refine (rFail_any gr x 2 s1 w2 hb2).mono ?_
    rintro en w3 ⟨⟨v3, rfl⟩, hb3, hg3⟩
    go_wp2_with fail
    go_ret
    rw [HP.out]
    exact ⟨rfl, hb3, gtrans hg2 hg3⟩
  · have d : decide (1099511627776 < v) = false := by simpa using hf
    have HP : Hid (smallS b s = (v, s1)) := Lib.hid (by unfold smallS; rw [← hu, if_neg hf])
    clear hf hu
    go_wp2_with fail
    go_ret
    rw [HP.out]
    exact ⟨rfl, hb2, hg2⟩
set_option maxHeartbeats 4000000 in
set_option maxRecDepth 100000 in
theorem rCount_any (gr : Nat) (x : Value) (b : List UInt8) (s : RS18) (w : World) (hx : InB w x b) (hb : RBlk gr x s w) (hl : b.length ≤ 1000000) :
    Calls Try.prog 82 #[.pointer (some ⟨gr, 0, none⟩)] w (RdS gr x (countS b s) w) := by
  go_enter Try.func82, Try.ntmps82
  go_wp2_with fail
  refine (rUint_any gr x b s w hx hb hl).mono ?_
  rintro en w2 ⟨rfl, hb2, hg2⟩
  obtain ⟨⟨v, s1⟩, hu⟩ : ∃ u, u = uintS b s := ⟨_, rfl⟩
  rw [← hu] at hb2 ⊢
  dsimp only at hb2 ⊢
  by_cases hf : 8000 < v
  · have d : decide (8000 < v) = true := by simpa using hf
    have HP : Hid (countS b s = (0, failS 5 s1)) := Lib.hid (by unfold countS; rw [← hu, if_pos hf])
    clear hf hu
    go_wp2_with fail
    refine (rFail_any gr x 5 s1 w2 hb2).mono ?_
    rintro en w3 ⟨⟨v3, rfl⟩, hb3, hg3⟩
    go_wp2_with fail
    go_ret
    rw [HP.out]
    exact ⟨rfl, hb3, gtrans hg2 hg3⟩
  · have d : decide (8000 < v) = false := by simpa using hf
    have HP : Hid (countS b s = (v, s1)) := Lib.hid (by unfold countS; rw [← hu, if_neg hf])
    clear hf hu
    go_wp2_with fail
    go_ret
    rw [HP.out]
    exact ⟨rfl, hb2, hg2⟩
/-! what ref.Decode computes -/
def preS {α : Type} (acc : List α) (x : List α × RS18) : List α × RS18 := (acc ++ x.1, x.2)
theorem preS_nil {α : Type} (x : List α × RS18) : preS [] x = x := rfl
theorem preS_preS {α : Type} (a c : List α) (x : List α × RS18) : preS a (preS c x) = preS (a ++ c) x := by simp [preS]
def stepsS (b : List UInt8) : Nat → Int → RS18 → List Stp × RS18
  | 0, _, s => ([], s)
  | k + 1, last, s => if s.e ≠ 0 then ([], s) else preS [⟨IntKind.i64.wrap (last + (smallS b s).1), (smallS b (smallS b s).2).1⟩] (stepsS b k (IntKind.i64.wrap (last + (smallS b s).1)) (smallS b (smallS b s).2).2)
def objsS (b : List UInt8) : Nat → RS18 → List Obj × RS18
  | 0, s => ([], s)
  | k + 1, s => if s.e ≠ 0 then ([], s) else
    let a := smallS b s
    let c := smallS b a.2
    let d := smallS b c.2
    let f := smallS b d.2
    preS [⟨a.1, c.1, d.1, f.1⟩] (objsS b k f.2)
def tabS (b : List UInt8) (s : RS18) : FTab × RS18 :=
  let a := smallS b s
  let c := smallS b a.2
  let n := countS b c.2
  let ss := stepsS b n.1.toNat a.1 n.2
  let m := countS b ss.2
  let os := objsS b m.1.toNat m.2
  (⟨a.1, c.1, ss.1, os.1⟩, os.2)
def tabsS (b : List UInt8) : Nat → RS18 → List FTab × RS18
  | 0, s => ([], s)
  | n + 1, s => if s.e ≠ 0 then ([], s) else preS [(tabS b s).1] (tabsS b n (tabS b s).2)
theorem stepsS_end {b : List UInt8} {k : Nat} {last : Int} {s : RS18} (h : k = 0 ∨ s.e ≠ 0) : stepsS b k last s = ([], s) := by
  cases k with
  | zero => rfl
  | succ k => unfold stepsS; rw [if_pos (h.resolve_left (by omega))]
theorem objsS_end {b : List UInt8} {k : Nat} {s : RS18} (h : k = 0 ∨ s.e ≠ 0) : objsS b k s = ([], s) := by
  cases k with
  | zero => rfl
  | succ k => unfold objsS; rw [if_pos (h.resolve_left (by omega))]
theorem tabsS_end {b : List UInt8} {k : Nat} {s : RS18} (h : k = 0 ∨ s.e ≠ 0) : tabsS b k s = ([], s) := by
  cases k with
  | zero => rfl
  | succ k => unfold tabsS; rw [if_pos (h.resolve_left (by omega))]
open Classical in
noncomputable def decW (b : List UInt8) (l : List FTab × RS18) : Except Int (List FTab) :=
  if l.2.e ≠ 0 then .error l.2.e else if l.2.p < b.length ∨ ¬ RightF l.1 then .error 4 else .ok l.1
def limS (u : Int × RS18) : RS18 := if 8 < u.1 then failS 5 u.2 else u.2
noncomputable def decS (b : List UInt8) : Except Int (List FTab) :=
  if 60000 < b.length then .error 5 else decW b (tabsS b (uintS b ⟨0, 0⟩).1.toNat (limS (uintS b ⟨0, 0⟩)))
/-! it is what cfi.Decode computes -/
theorem small_num {b : List UInt8} {p : Int} : (∀ er, numR b p = .error er → (smallS b ⟨p, 0⟩).2.e = er ∧ er ≠ 0) ∧ (∀ v q, numR b p = .ok (v, q) → smallS b ⟨p, 0⟩ = (v, ⟨q, 0⟩)) := by
  have hz : uintS b ⟨p, 0⟩ = if (uintR b p).2.2 ≠ 0 then (0, ⟨p, (uintR b p).2.2⟩) else ((uintR b p).1, ⟨(uintR b p).2.1, 0⟩) := by
    unfold uintS
    rw [if_neg (by simp)]
  unfold numR smallS
  rw [hz]
  by_cases h : (uintR b p).2.2 ≠ 0
  · rw [if_pos h, if_pos h]
    refine ⟨fun er e => ?_, fun v q e => by cases e⟩
    injection e with e
    rw [if_neg (by simp), ← e]
    exact ⟨rfl, h⟩
  · rw [if_neg h, if_neg h]
    by_cases h2 : 1099511627776 < (uintR b p).1
    · rw [if_pos h2, if_pos h2]
      refine ⟨fun er e => ?_, fun v q e => by cases e⟩
      injection e with e
      subst e
      exact ⟨rfl, by decide⟩
    · rw [if_neg h2, if_neg h2]
      refine ⟨fun er e => (by cases e), fun v q e => ?_⟩
      injection e with e
      injection e with e1 e2
      rw [e1, e2]
theorem count_cnt {b : List UInt8} {p : Int} : (∀ er, cntR 8000 b p = .error er → (countS b ⟨p, 0⟩).2.e = er ∧ er ≠ 0 ∧ (countS b ⟨p, 0⟩).1 = 0) ∧ (∀ v q, cntR 8000 b p = .ok (v, q) → countS b ⟨p, 0⟩ = (v, ⟨q, 0⟩)) := by
  have hz : uintS b ⟨p, 0⟩ = if (uintR b p).2.2 ≠ 0 then (0, ⟨p, (uintR b p).2.2⟩) else ((uintR b p).1, ⟨(uintR b p).2.1, 0⟩) := by
    unfold uintS
    rw [if_neg (by simp)]
  unfold cntR countS
  rw [hz]
  by_cases h : (uintR b p).2.2 ≠ 0
  · rw [if_pos h, if_pos h]
    refine ⟨fun er e => ?_, fun v q e => by cases e⟩
    injection e with e
    rw [if_neg (by simp), ← e]
    exact ⟨rfl, h, rfl⟩
  · rw [if_neg h, if_neg h]
    by_cases h2 : 8000 < (uintR b p).1
    · rw [if_pos h2, if_pos h2]
      refine ⟨fun er e => ?_, fun v q e => by cases e⟩
      injection e with e
      subst e
      exact ⟨rfl, by decide, rfl⟩
    · rw [if_neg h2, if_neg h2]
      refine ⟨fun er e => (by cases e), fun v q e => ?_⟩
      injection e with e
      injection e with e1 e2
      rw [e1, e2]
theorem small_dead {b : List UInt8} {s : RS18} (h : s.e ≠ 0) : smallS b s = (0, s) := by
  have : uintS b s = (0, s) := by unfold uintS; rw [if_pos h]
  unfold smallS
  rw [this, if_neg (by simp)]
theorem count_dead {b : List UInt8} {s : RS18} (h : s.e ≠ 0) : countS b s = (0, s) := by
  have : uintS b s = (0, s) := by unfold uintS; rw [if_pos h]
  unfold countS
  rw [this, if_neg (by simp)]
theorem nums2 {b : List UInt8} {p : Int} : numsR b 2 p = match numR b p with
    | .error e => .error e
    | .ok (a, q) => match numR b q with
      | .error e => .error e
      | .ok (o, r) => .ok ([a, o], r) := by
  unfold numsR
  rcases h1 : numR b p with e | ⟨a, q⟩
  · rfl
  · simp only
    unfold numsR
    rcases h2 : numR b q with e | ⟨o, r⟩
    · simp [preR]
    · simp [numsR, preR]
theorem nums4 {b : List UInt8} {p : Int} : numsR b 4 p = match numsR b 2 p with
    | .ok ([a, c], q) => (match numsR b 2 q with
      | .ok ([d, f], r) => .ok ([a, c, d, f], r)
      | .error e => .error e
      | _ => .error 0)
    | .error e => .error e
    | _ => .error 0 := by
  rw [nums2]
  conv => lhs; unfold numsR
  rcases h1 : numR b p with e | ⟨a, q⟩
  · rfl
  · simp only
    conv => lhs; unfold numsR
    rcases h2 : numR b q with e | ⟨c, r⟩
    · simp [preR]
    · simp only
      rw [nums2]
      conv => lhs; unfold numsR
      rcases h3 : numR b r with e | ⟨d, t⟩
      · simp [preR]
      · simp only
        conv => lhs; unfold numsR
        rcases h4 : numR b t with e | ⟨f, u⟩
        · simp [preR]
        · simp [numsR, preR]
theorem two_small {b : List UInt8} {p : Int} : (∀ er, numsR b 2 p = .error er → (smallS b (smallS b ⟨p, 0⟩).2).2.e = er ∧ er ≠ 0) ∧ (∀ a o q, numsR b 2 p = .ok ([a, o], q) → (smallS b ⟨p, 0⟩).1 = a ∧ smallS b (smallS b ⟨p, 0⟩).2 = (o, ⟨q, 0⟩)) := by
  rw [nums2]
  rcases h1 : numR b p with e | ⟨a, q⟩
  · obtain ⟨h2, h3⟩ := small_num.1 e h1
    refine ⟨fun er h => ?_, fun _ _ _ h => by cases h⟩
    injection h with h
    rw [small_dead (by rw [h2]; exact h3)]
    exact ⟨by rw [← h]; exact h2, by rw [← h]; exact h3⟩
  · have h2 := small_num.2 a q h1
    simp only
    rcases h3 : numR b q with e | ⟨o, r⟩
    · obtain ⟨h4, h5⟩ := small_num.1 e h3
      refine ⟨fun er h => ?_, fun _ _ _ h => by cases h⟩
      injection h with h
      rw [h2]
      exact ⟨by rw [← h]; exact h4, by rw [← h]; exact h5⟩
    · have h4 := small_num.2 o r h3
      refine ⟨fun er h => (by cases h), fun a' o' q' h => ?_⟩
      injection h with h
      injection h with h5 h6
      injection h5 with h7 h8
      injection h8 with h8
      rw [h2, ← h7, ← h6, ← h8]
      exact ⟨rfl, h4⟩
theorem steps_eq {b : List UInt8} : ∀ (k : Nat) (last p : Int), 0 ≤ last → last + 1099511627776 * k ≤ 9223372036854775807 → (∀ er, stepsR b k last p = .error er → (stepsS b k last ⟨p, 0⟩).2.e = er ∧ er ≠ 0) ∧ (∀ l q, stepsR b k last p = .ok (l, q) → stepsS b k last ⟨p, 0⟩ = (l, ⟨q, 0⟩))
  | 0, last, p, _, _ => by
    constructor
    · intro er h
      cases h
    · intro l q h
      unfold stepsR at h
      injection h with h
      injection h with h1 h2
      subst h1 h2
      rfl
  | k + 1, last, p, h0, hb => by
    have ht := two_small (b := b) (p := p)
    unfold stepsR stepsS
    rw [if_neg (by simp)]
    rcases h1 : numsR b 2 p with e | ⟨vs, q⟩
    · obtain ⟨h2, h3⟩ := ht.1 e h1
      refine ⟨fun er h => ?_, fun _ _ h => by cases h⟩
      injection h with h
      rw [stepsS_end (.inr (by rw [h2]; exact h3))]
      exact ⟨by rw [← h]; exact h2, by rw [← h]; exact h3⟩
    · obtain ⟨hvl, hvr⟩ := numsR_ok h1
      obtain ⟨a, o, rfl⟩ := list2 hvl
      obtain ⟨h2, h3⟩ := ht.2 a o q h1
      have har := hvr a (by simp)
      have hw : IntKind.i64.wrap (last + a) = a + last := by rw [IntKind.wrap_i64]; omega
      simp only
      rw [h2, h3, hw]
      simp only
      obtain ⟨i1, i2⟩ := steps_eq k (a + last) q (by omega) (by omega)
      rcases h4 : stepsR b k (a + last) q with e | ⟨l, r⟩
      · obtain ⟨h5, h6⟩ := i1 e h4
        refine ⟨fun er h => ?_, fun _ _ h => by cases h⟩
        injection h with h
        exact ⟨by rw [← h]; exact h5, by rw [← h]; exact h6⟩
      · have h5 := i2 l r h4
        refine ⟨fun er h => (by cases h), fun l' q' h => ?_⟩
        simp only [preR] at h
        injection h with h
        injection h with h6 h7
        rw [h5, ← h6, ← h7]
        rfl
theorem objs_eq {b : List UInt8} : ∀ (k : Nat) (p : Int), (∀ er, objsR b k p = .error er → (objsS b k ⟨p, 0⟩).2.e = er ∧ er ≠ 0) ∧ (∀ l q, objsR b k p = .ok (l, q) → objsS b k ⟨p, 0⟩ = (l, ⟨q, 0⟩))
  | 0, p => by
    constructor
    · intro er h
      cases h
    · intro l q h
      unfold objsR at h
      injection h with h
      injection h with h1 h2
      subst h1 h2
      rfl
  | k + 1, p => by
    have ht := two_small (b := b) (p := p)
    unfold objsR objsS
    rw [if_neg (by simp), nums4]
    rcases h1 : numsR b 2 p with e | ⟨vs, q⟩
    · obtain ⟨h2, h3⟩ := ht.1 e h1
      refine ⟨fun er h => ?_, fun _ _ h => by cases h⟩
      injection h with h
      have hd : (smallS b (smallS b ⟨p, 0⟩).2).2.e ≠ 0 := by rw [h2]; exact h3
      simp only
      rw [small_dead hd]
      simp only
      rw [small_dead hd]
      simp only
      rw [objsS_end (.inr hd)]
      exact ⟨by rw [← h]; exact h2, by rw [← h]; exact h3⟩
    · obtain ⟨hvl, _⟩ := numsR_ok h1
      obtain ⟨a, o, rfl⟩ := list2 hvl
      obtain ⟨h2, h3⟩ := ht.2 a o q h1
      have ht2 := two_small (b := b) (p := q)
      simp only
      rw [h2, h3]
      simp only
      rcases h4 : numsR b 2 q with e | ⟨ws, r⟩
      · obtain ⟨h5, h6⟩ := ht2.1 e h4
        refine ⟨fun er h => ?_, fun _ _ h => by cases h⟩
        injection h with h
        rw [objsS_end (.inr (by rw [h5]; exact h6))]
        exact ⟨by rw [← h]; exact h5, by rw [← h]; exact h6⟩
      · obtain ⟨hwl, _⟩ := numsR_ok h4
        obtain ⟨d, f, rfl⟩ := list2 hwl
        obtain ⟨h5, h6⟩ := ht2.2 d f r h4
        simp only
        rw [h5, h6]
        simp only
        obtain ⟨i1, i2⟩ := objs_eq k r
        rcases h7 : objsR b k r with e | ⟨l, t⟩
        · obtain ⟨h8, h9⟩ := i1 e h7
          refine ⟨fun er h => ?_, fun _ _ h => by cases h⟩
          injection h with h
          exact ⟨by rw [← h]; exact h8, by rw [← h]; exact h9⟩
        · have h8 := i2 l t h7
          refine ⟨fun er h => (by cases h), fun l' q' h => ?_⟩
          simp only [preR] at h
          injection h with h
          injection h with h9 h10
          rw [h8, ← h9, ← h10]
          rfl
theorem tab_eq {b : List UInt8} (p : Int) : (∀ er, tabR b p = .error er → (tabS b ⟨p, 0⟩).2.e = er ∧ er ≠ 0) ∧ (∀ t q, tabR b p = .ok (t, q) → tabS b ⟨p, 0⟩ = (t, ⟨q, 0⟩)) := by
  have dead : ∀ {er : Int} {s : RS18}, s.e = er → er ≠ 0 → (countS b s).1 = 0 ∧ (countS b s).2.e = er := fun h1 h2 => by
    rw [count_dead (by rw [h1]; exact h2)]
    exact ⟨rfl, h1⟩
  have ht := two_small (b := b) (p := p)
  unfold tabR tabS
  simp only
  rcases h1 : numsR b 2 p with e | ⟨vs, q⟩
  · obtain ⟨h2, h3⟩ := ht.1 e h1
    refine ⟨fun er h => ?_, fun _ _ h => by cases h⟩
    injection h with h
    obtain ⟨c1, c2⟩ := dead h2 h3
    rw [stepsS_end (.inr (by rw [c2]; exact h3))]
    obtain ⟨c3, c4⟩ := dead c2 h3
    rw [objsS_end (.inr (by rw [c4]; exact h3))]
    exact ⟨by rw [← h]; exact c4, by rw [← h]; exact h3⟩
  · obtain ⟨hvl, hvr⟩ := numsR_ok h1
    obtain ⟨lo, hi, rfl⟩ := list2 hvl
    obtain ⟨h2, h3⟩ := ht.2 lo hi q h1
    have hlr := hvr lo (by simp)
    simp only
    rw [h2, h3]
    simp only
    have hc := count_cnt (b := b) (p := q)
    rcases h4 : cntR 8000 b q with e | ⟨n, p2⟩
    · obtain ⟨h5, h6, h7⟩ := hc.1 e h4
      refine ⟨fun er h => ?_, fun _ _ h => by cases h⟩
      injection h with h
      rw [stepsS_end (.inr (by rw [h5]; exact h6))]
      obtain ⟨c3, c4⟩ := dead h5 h6
      rw [objsS_end (.inr (by rw [c4]; exact h6))]
      exact ⟨by rw [← h]; exact c4, by rw [← h]; exact h6⟩
    · have h5 := hc.2 n p2 h4
      have hnr := cntR_ok h4
      simp only
      rw [h5]
      simp only
      obtain ⟨i1, i2⟩ := steps_eq (b := b) n.toNat lo p2 hlr.1 (by omega)
      rcases h6 : stepsR b n.toNat lo p2 with e | ⟨ss, p3⟩
      · obtain ⟨h7, h8⟩ := i1 e h6
        refine ⟨fun er h => ?_, fun _ _ h => by cases h⟩
        injection h with h
        obtain ⟨c3, c4⟩ := dead h7 h8
        rw [objsS_end (.inr (by rw [c4]; exact h8))]
        exact ⟨by rw [← h]; exact c4, by rw [← h]; exact h8⟩
      · have h7 := i2 ss p3 h6
        simp only
        rw [h7]
        simp only
        have hc2 := count_cnt (b := b) (p := p3)
        rcases h8 : cntR 8000 b p3 with e | ⟨m, p4⟩
        · obtain ⟨h9, h10, h11⟩ := hc2.1 e h8
          refine ⟨fun er h => ?_, fun _ _ h => by cases h⟩
          injection h with h
          rw [objsS_end (.inr (by rw [h9]; exact h10))]
          exact ⟨by rw [← h]; exact h9, by rw [← h]; exact h10⟩
        · have h9 := hc2.2 m p4 h8
          simp only
          rw [h9]
          simp only
          obtain ⟨j1, j2⟩ := objs_eq (b := b) m.toNat p4
          rcases h10 : objsR b m.toNat p4 with e | ⟨os, p5⟩
          · obtain ⟨h11, h12⟩ := j1 e h10
            refine ⟨fun er h => ?_, fun _ _ h => by cases h⟩
            injection h with h
            exact ⟨by rw [← h]; exact h11, by rw [← h]; exact h12⟩
          · have h11 := j2 os p5 h10
            refine ⟨fun er h => (by cases h), fun t' q' h => ?_⟩
            injection h with h
            injection h with h12 h13
            rw [h11, ← h12, ← h13]
theorem tabs_eq {b : List UInt8} : ∀ (n : Nat) (p : Int), (∀ er, tabsR b n p = .error er → (tabsS b n ⟨p, 0⟩).2.e = er ∧ er ≠ 0) ∧ (∀ l q, tabsR b n p = .ok (l, q) → tabsS b n ⟨p, 0⟩ = (l, ⟨q, 0⟩))
  | 0, p => by
    constructor
    · intro er h
      cases h
    · intro l q h
      unfold tabsR at h
      injection h with h
      injection h with h1 h2
      subst h1 h2
      rfl
  | n + 1, p => by
    obtain ⟨t1, t2⟩ := tab_eq (b := b) p
    unfold tabsR tabsS
    rw [if_neg (by simp)]
    rcases h1 : tabR b p with e | ⟨t, q⟩
    · obtain ⟨h2, h3⟩ := t1 e h1
      refine ⟨fun er h => ?_, fun _ _ h => by cases h⟩
      injection h with h
      rw [tabsS_end (.inr (by rw [h2]; exact h3))]
      exact ⟨by rw [← h]; exact h2, by rw [← h]; exact h3⟩
    · have h2 := t2 t q h1
      simp only
      rw [h2]
      simp only
      obtain ⟨i1, i2⟩ := tabs_eq n q
      rcases h4 : tabsR b n q with e | ⟨l, r⟩
      · obtain ⟨h5, h6⟩ := i1 e h4
        refine ⟨fun er h => ?_, fun _ _ h => by cases h⟩
        injection h with h
        exact ⟨by rw [← h]; exact h5, by rw [← h]; exact h6⟩
      · have h5 := i2 l r h4
        refine ⟨fun er h => (by cases h), fun l' q' h => ?_⟩
        simp only [preR] at h
        injection h with h
        injection h with h6 h7
        rw [h5, ← h6, ← h7]
        rfl
theorem decW_err {b : List UInt8} {l : List FTab × RS18} {er : Int} (h : l.2.e = er) (h0 : er ≠ 0) : decW b l = .error er := by
  unfold decW
  rw [if_pos (by rw [h]; exact h0), h]
theorem decS_eq (b : List UInt8) : decS b = decF b := by
  unfold decS decF
  by_cases h6 : 60000 < b.length
  · rw [if_pos h6, if_pos h6]
  · rw [if_neg h6, if_neg h6]
    have hz : uintS b ⟨0, 0⟩ = if (uintR b 0).2.2 ≠ 0 then (0, ⟨0, (uintR b 0).2.2⟩) else ((uintR b 0).1, ⟨(uintR b 0).2.1, 0⟩) := by
      unfold uintS
      rw [if_neg (by simp)]
    rw [hz]
    unfold cntR
    by_cases h : (uintR b 0).2.2 ≠ 0
    · rw [if_pos h, if_pos h]
      show decW b (tabsS b 0 _) = _
      rw [tabsS_end (.inl rfl)]
      exact decW_err rfl h
    · rw [if_neg h, if_neg h]
      by_cases h2 : 8 < (uintR b 0).1
      · rw [if_pos h2]
        have e5 : limS ((uintR b 0).1, ⟨(uintR b 0).2.1, 0⟩) = ⟨(uintR b 0).2.1, 5⟩ := by
          unfold limS
          simp only
          rw [if_pos h2]
          rfl
        rw [e5, tabsS_end (.inr (show (5 : Int) ≠ 0 by decide))]
        exact decW_err rfl (by decide)
      · rw [if_neg h2]
        have e5 : limS ((uintR b 0).1, ⟨(uintR b 0).2.1, 0⟩) = ⟨(uintR b 0).2.1, 0⟩ := by
          unfold limS
          simp only
          rw [if_neg h2]
        rw [e5]
        simp only
        obtain ⟨i1, i2⟩ := tabs_eq (b := b) (uintR b 0).1.toNat (uintR b 0).2.1
        rcases h4 : tabsR b (uintR b 0).1.toNat (uintR b 0).2.1 with e | ⟨l, q⟩
        · obtain ⟨h5, h7⟩ := i1 e h4
          exact decW_err h5 h7
        · have h5 := i2 l q h4
          rw [h5]
          unfold decW
          simp only
          rw [if_neg (by simp)]
end Go.Proofs.Ytokmbdeafjmcjaa
