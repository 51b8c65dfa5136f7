/- The tables that the statements make from numbers: the walk. -/
import Derived.Test.YtokmbdeafjmcjaaLinP
namespace Go.Proofs.Ytokmbdeafjmcjaa
open Go.RowKit
set_option linter.unusedVariables false

theorem TabsOwn.low {base base' : Nat} {w : World} {v : Value} {l : List LTab} (h : TabsOwn base w v l) (hb : base' ≤ base) : TabsOwn base' w v l := by
  obtain ⟨zs, h1, h2, h3⟩ := h
  exact ⟨zs, h1, h2.low hb, fun z hz => (h3 z hz).low hb⟩
def TbPost (w : World) (en : Ending) (w' : World) : Prop := ∃ y l, en = .returned y ∧ TabsOwn w.heap.size w' y l ∧ RightL l ∧ l.length ≤ 4 ∧ rowsN l ≤ 200 ∧ Ext w w'
set_option maxHeartbeats 40000000 in
set_option maxRecDepth 100000 in
theorem tables_any (x : Value) (nums : List Int) (w : World) (hx : InI w x nums) : Calls Try.prog 27 #[x] w (TbPost w) := by
  obtain ⟨A, c, rfl, _, _⟩ := id hx
  go_enter Try.func27, Try.ntmps27
  go_wp2_with fail
  refine (positive_any _ nums w hx).mono ?_
  rintro en w1 ⟨y1, p, rfl, ho1, hp120, hpr, hx1⟩
  obtain ⟨Y1, c1, hy1, _, hr1⟩ := ho1.inV
  obtain ⟨n1, hn1⟩ : ∃ n, n = p.length := ⟨_, rfl⟩
  rw [← hn1] at hy1
  subst hy1
  have hn120 : n1 ≤ 120 := by omega
  have HN1 := Lib.hid hn1
  have HPR := Lib.hid hpr
  clear hn1 hpr ho1 hx hp120
  go_wp2_with fail
  go_loopw [3, 4, 5, 7] (fun v ai li ni wr => ∃ (l : List LTab) (a : Nat) (lo : Int) (k : Nat), ni = .int .i64 (k : Int) ∧ k ≤ 4 ∧ l.length = k ∧ ai = .int .i64 (a : Int) ∧ a ≤ 130 ∧ li = .int .i64 lo ∧ (0 ≤ lo ∧ lo ≤ 100000) ∧ TabsOwn w1.heap.size wr v l ∧ Hid (TG l lo a) ∧ Ext w wr ∧ Ext w1 wr) (fun _ _ _ ni _ => 4 - (intOf ni).toNat)
  case atStart => exact ⟨[], 0, 0, 0, rfl, by omega, rfl, rfl, by omega, rfl, by omega, ⟨[], rfl, OwnR.nil _, by simp⟩, Lib.hid ⟨trivial, rfl, by omega, by simp [rowsN], by simp [rowsN]⟩, hx1, Ext.refl _⟩
  case round =>
    obtain ⟨l, a, lo, n, rfl, hn4, hln, rfl, ha, rfl, hlo, hT, HG, hX, hX1⟩ := hrel
    obtain ⟨wo, rfl⟩ : ∃ wo : World, wo = wr := ⟨_, rfl⟩
    go_upto_region 5 with fail
    go_cut [20] (fun s wx => ∃ d : Bool, s = .bool d ∧ (d = true ↔ n < 4 ∧ a < n1) ∧ wx = wo)
    case first =>
      by_cases h1 : n < 4
      · have d1 : decide ((n : Int) < 4) = true := by simp; omega
        by_cases h2 : a < n1
        · have d2 : decide ((a : Int) < (n1 : Int)) = true := by simp; omega
          go_wp2_with fail
          go_meet
          exact ⟨true, rfl, by simp [h1, h2], rfl⟩
        · have d2 : decide ((a : Int) < (n1 : Int)) = false := by simp; omega
          go_wp2_with fail
          go_meet
          exact ⟨false, rfl, by simp [h2], rfl⟩
      · have d1 : decide ((n : Int) < 4) = false := by simp; omega
        go_wp2_with fail
        go_meet
        exact ⟨false, rfl, by simp [h1], rfl⟩
    obtain ⟨d, rfl, hd, hwe⟩ := hcut
    subst hwe
    cases d with
    | false =>
      clear hd
      go_wp2_with fail
      refine bodyPost_ret (by simp [results, Try.results27, go_sem]; rfl) rfl ?_
      exact ⟨_, l, rfl, hT.low hx1.size, HG.out.right (by omega) (by omega), by omega, by have := HG.out.rows; omega, hX⟩
    | true =>
      obtain ⟨wO, rfl⟩ : ∃ W : World, W = wc := ⟨_, rfl⟩
      obtain ⟨hn, han⟩ := hd.1 rfl
      clear hd
      have hai : (a : Int) < (n1 : Int) := by omega
      obtain ⟨bp, op, rfl, hz0⟩ := hr1.at2 (k := a) (by rw [List.length_map, ← HN1.out]; exact han)
      clear hz0
      have HPC : Hid (∀ W, Ext w1 W → ∀ i, i < n1 → ∃ q : Int, W.cell? ⟨bp, op + i, none⟩ = some (.int .i64 q) ∧ 0 ≤ q ∧ q < 1048576) := Lib.hid fun W hW i hi => by
        have hip : i < p.length := by rw [← HN1.out]; exact hi
        obtain ⟨b', o', e', hc⟩ := (hr1.ext hW).at2 (k := i) (by simpa using hip)
        cases e'
        exact ⟨p[i], by rw [hc]; simp [iv], HPR.out _ (List.getElem_mem hip)⟩
      obtain ⟨q, hcq, hq⟩ := HPC.out _ hX1 a han
      obtain ⟨m0, hm0, hm0r⟩ : ∃ m0 : Int, q.tmod 50 = m0 ∧ 0 ≤ m0 ∧ m0 ≤ 49 := ⟨q.tmod 50, rfl, by rw [Int.tmod_eq_emod_of_nonneg (by omega)]; omega, by rw [Int.tmod_eq_emod_of_nonneg (by omega)]; omega⟩
      obtain ⟨lo8, hlo8, hlo8r⟩ : ∃ lo8 : Int, IntKind.i64.wrap (lo + m0) = lo8 ∧ lo8 = lo + m0 := ⟨lo + m0, by rw [IntKind.wrap_i64]; omega, rfl⟩
      have hl8 : lo ≤ lo8 ∧ lo8 ≤ lo + 50 := by omega
      clear hlo8r
      obtain ⟨hst, hG8, hXG⟩ := box_new (P := Try.prog) wO 46 #[.int .i64 0, .int .i64 0, .slice none 0 0] #[.int .i64 lo8, .int .i64 0, .slice none 0 0] lt_size rfl (by simp [Value.oneCell'])
      go_upto_region 8 with first | refine wpList_store_run rfl 46 (.tmp 8) (.tmp 30) rfl _ _ _ rfl rfl hst ?_
      obtain ⟨g8, hg8⟩ : ∃ g, g = wO.heap.size := ⟨_, rfl⟩
      have hg8w : wO.heap.size ≤ g8 := by omega
      rw [← hg8] at hG8 hXG ⊢
      generalize (wO.alloc (.cells #[.int .i64 0, .int .i64 0, .slice none 0 0] 46)).setRow g8 #[.int .i64 lo8, .int .i64 0, .slice none 0 0] = w2 at *
      obtain ⟨p0, p1, p2⟩ := blkT hG8
      have hwa : IntKind.i64.wrap ((a : Int) + 1) = ((a + 1 : Nat) : Int) := by rw [IntKind.wrap_i64]; omega
      clear hst hg8 hm0 hlo8 hcq hm0r hq
      go_wp2_with fail
      go_loopw [4, 9] (fun ki avi wz => ∃ (k : Nat) (av : Int) (rows : List LRow) (y : Value), ki = .int .i64 (k : Int) ∧ Hid (k = a + 1 + 4 * rows.length) ∧ k ≤ n1 + 4 ∧ avi = .int .i64 av ∧ wz.heap[g8]? = some (.cells #[.int .i64 lo8, .int .i64 0, y] 46 (0, 0)) ∧ OwnR lrowCells 4 53 wO.heap.size wz y rows ∧ Hid (IG lo8 av rows) ∧ Ext wO wz) (fun ki _ _ => 200 - (intOf ki).toNat)
      case atStart => exact ⟨a + 1, lo8, [], .slice none 0 0, by first | (with_reducible rfl) | go_num, Lib.hid (by simp), by omega, rfl, hG8, OwnR.nil _, Lib.hid (IG.start lo8), hXG⟩
      case round =>
        clear hG8 hXG p0 p1 p2 hwa
        obtain ⟨k, av, rows, y, rfl, HK, hkn, rfl, hG8, hown, HI, hXz⟩ := hrel
        obtain ⟨wz, rfl⟩ : ∃ wz : World, wz = wr := ⟨_, rfl⟩
        have hX1z := hX1.trans hXz
        go_upto_region 10 with fail
        go_cut [47] (fun s wx => ∃ d : Bool, s = .bool d ∧ (d = true → k + 3 < n1) ∧ wx = wz)
        case first =>
          have hw3 : IntKind.i64.wrap ((k : Int) + 3) = ((k + 3 : Nat) : Int) := by rw [IntKind.wrap_i64]; omega
          by_cases h1 : k + 3 < n1
          · have d1 : decide (((k + 3 : Nat) : Int) < (n1 : Int)) = true := by simp; omega
            obtain ⟨q, hcq, hq⟩ := HPC.out _ hX1z k (by omega)
            have hki : (k : Int) < (n1 : Int) := by omega
            by_cases h2 : q % 7 = 0
            · have d2 : (q % 7 != 0) = false := by simp [h2]
              have H2 := Lib.hid h2
              clear h2
              go_wp2_with fail
              go_meet
              exact ⟨false, rfl, fun _ => h1, rfl⟩
            · have d2 : (q % 7 != 0) = true := by simp [h2]
              have H2 := Lib.hid h2
              clear h2
              go_wp2_with fail
              go_meet
              exact ⟨true, rfl, fun _ => h1, rfl⟩
          · have d1 : decide (((k + 3 : Nat) : Int) < (n1 : Int)) = false := by simp; omega
            go_wp2_with fail
            go_meet
            exact ⟨false, rfl, fun h => (by cases h), rfl⟩
        obtain ⟨d, rfl, hd, hwe⟩ := hcut
        cases d with
        | true =>
          have hk3 := hd rfl
          clear hd
          subst hwe
          obtain ⟨wI, rfl⟩ : ∃ W : World, W = wc := ⟨_, rfl⟩
          obtain ⟨q0, hc0, hq0⟩ := HPC.out _ hX1z k (by omega)
          obtain ⟨k1, hk1⟩ : ∃ k1, k1 = k + 1 := ⟨_, rfl⟩
          obtain ⟨k2, hk2⟩ : ∃ k2, k2 = k + 2 := ⟨_, rfl⟩
          obtain ⟨k3, hk3'⟩ : ∃ k3, k3 = k + 3 := ⟨_, rfl⟩
          obtain ⟨q1, hc1, hq1⟩ := HPC.out _ hX1z k1 (by omega)
          obtain ⟨q2, hc2, hq2⟩ := HPC.out _ hX1z k2 (by omega)
          obtain ⟨q3, hc3, hq3⟩ := HPC.out _ hX1z k3 (by omega)
          obtain ⟨m1, hm1, hm1r⟩ : ∃ m : Int, q1.tmod 40 = m ∧ 0 ≤ m ∧ m ≤ 39 := ⟨q1.tmod 40, rfl, by rw [Int.tmod_eq_emod_of_nonneg (by omega)]; omega, by rw [Int.tmod_eq_emod_of_nonneg (by omega)]; omega⟩
          obtain ⟨m2, hm2, hm2r⟩ : ∃ m : Int, q2.tmod 3 = m ∧ 0 ≤ m ∧ m ≤ 2 := ⟨q2.tmod 3, rfl, by rw [Int.tmod_eq_emod_of_nonneg (by omega)]; omega, by rw [Int.tmod_eq_emod_of_nonneg (by omega)]; omega⟩
          obtain ⟨m3, hm3, hm3r⟩ : ∃ m : Int, q3.tmod 60 = m ∧ 0 ≤ m ∧ m ≤ 59 := ⟨q3.tmod 60, rfl, by rw [Int.tmod_eq_emod_of_nonneg (by omega)]; omega, by rw [Int.tmod_eq_emod_of_nonneg (by omega)]; omega⟩
          obtain ⟨m4, hm4⟩ : ∃ m : Int, q0.tmod 2 = m := ⟨_, rfl⟩
          obtain ⟨mk, hmk⟩ : ∃ b : Bool, (m4 == 0) = b := ⟨_, rfl⟩
          have hI := HI.out
          have hI1 := hI.low
          have hI2 := hI.top
          have hrl : rows.length ≤ 200 := by have := HK.out; omega
          obtain ⟨A1, hA1, hA1r⟩ : ∃ A1 : Int, IntKind.i64.wrap (av + m1) = A1 ∧ av ≤ A1 ∧ A1 ≤ av + 39 := ⟨av + m1, by rw [IntKind.wrap_i64]; omega, by omega, by omega⟩
          obtain ⟨S1, hS1, hS1r⟩ : ∃ S1 : Int, IntKind.i64.wrap (m3 - 1) = S1 ∧ -1 ≤ S1 ∧ S1 ≤ 58 := ⟨m3 - 1, by rw [IntKind.wrap_i64]; omega, by omega, by omega⟩
          have hw1 : IntKind.i64.wrap ((k : Int) + 1) = (k1 : Int) := by rw [IntKind.wrap_i64]; omega
          have hw2 : IntKind.i64.wrap ((k : Int) + 2) = (k2 : Int) := by rw [IntKind.wrap_i64]; omega
          have hw3 : IntKind.i64.wrap ((k : Int) + 3) = (k3 : Int) := by rw [IntKind.wrap_i64]; omega
          have hi0 : (k : Int) < (n1 : Int) := by omega
          have hi1 : (k1 : Int) < (n1 : Int) := by omega
          have hi2 : (k2 : Int) < (n1 : Int) := by omega
          have hi3 : (k3 : Int) < (n1 : Int) := by omega
          clear hI hq0 hq1 hq2 hq3 hk1 hk2 hk3'
          go_upto_region 12 with fail
          refine wp_region_X #[true, true, true, true, true, true, true, true, true, true, true, true, true, true, true, true, true, true, true, true, true, true, true, true, true, true, true, true, true, false] 29 1 (by kernel_rfl) rfl ?_
          refine wpX_f 28 (.cells #[.int .i64 0, .int .i64 0, .int .i64 0, .bool false] 53 (0, 0)) rfl rfl (by kernel_rfl) (by kernel_rfl) (by kernel_rfl) (fun _ _ _ _ h => h) rfl (fun a W => by go_simp) wI.heap.size (Nat.le_refl _) (by kernel_rfl) ?_
          refine wpX_vt 0 (.int .i64 av) rfl rfl (by kernel_rfl) (by kernel_rfl) (by kernel_rfl) (fun _ _ _ _ h => h) (by kernel_rfl) rfl (by rfl) (fun W' hW => by
            skip
            go_simp) ?_
          simp only [List.setIfInBounds_toArray, List.set_cons_zero, List.set_cons_succ]
          refine wpX_vt 1 (.slice (some ⟨bp, op, none⟩) n1 c1) rfl rfl (by kernel_rfl) (by kernel_rfl) (by kernel_rfl) (fun _ _ _ _ h => h) (by kernel_rfl) rfl (by rfl) (fun W' hW => by
            skip
            go_simp) ?_
          simp only [List.setIfInBounds_toArray, List.set_cons_zero, List.set_cons_succ]
          refine wpX_vt 2 (.int .i64 (k : Int)) rfl rfl (by kernel_rfl) (by kernel_rfl) (by kernel_rfl) (fun _ _ _ _ h => h) (by kernel_rfl) rfl (by rfl) (fun W' hW => by
            skip
            go_simp) ?_
          simp only [List.setIfInBounds_toArray, List.set_cons_zero, List.set_cons_succ]
          refine wpX_vt 3 (.int .i64 (k1 : Int)) rfl rfl (by kernel_rfl) (by kernel_rfl) (by kernel_rfl) (fun _ _ _ _ h => h) (by kernel_rfl) rfl (by rfl) (fun W' hW => by
            skip
            go_simp) ?_
          simp only [List.setIfInBounds_toArray, List.set_cons_zero, List.set_cons_succ]
          refine wpX_vt 4 (.pointer (some ⟨bp, op + k1, none⟩)) rfl rfl (by kernel_rfl) (by kernel_rfl) (by kernel_rfl) (fun _ _ _ _ h => h) (by kernel_rfl) rfl (by rfl) (fun W' hW => by
            skip
            go_simp) ?_
          simp only [List.setIfInBounds_toArray, List.set_cons_zero, List.set_cons_succ]
          refine wpX_vt 5 (.int .i64 q1) rfl rfl (by kernel_rfl) (by kernel_rfl) (by kernel_rfl) (fun _ _ _ _ h => h) (by kernel_rfl) rfl (by rfl) (fun W' hW => by
            have z := (((Ext.refl wI).drew).trans hW).cell hc1
            go_simp) ?_
          simp only [List.setIfInBounds_toArray, List.set_cons_zero, List.set_cons_succ]
          refine wpX_vt 6 (.int .i64 m1) rfl rfl (by kernel_rfl) (by kernel_rfl) (by kernel_rfl) (fun _ _ _ _ h => h) (by kernel_rfl) rfl (by rfl) (fun W' hW => by
            skip
            go_simp) ?_
          simp only [List.setIfInBounds_toArray, List.set_cons_zero, List.set_cons_succ]
          refine wpX_vt 7 (.int .i64 A1) rfl rfl (by kernel_rfl) (by kernel_rfl) (by kernel_rfl) (fun _ _ _ _ h => h) (by kernel_rfl) rfl (by rfl) (fun W' hW => by
            skip
            go_simp) ?_
          simp only [List.setIfInBounds_toArray, List.set_cons_zero, List.set_cons_succ]
          refine wpX_vt 8 (.slice (some ⟨bp, op, none⟩) n1 c1) rfl rfl (by kernel_rfl) (by kernel_rfl) (by kernel_rfl) (fun _ _ _ _ h => h) (by kernel_rfl) rfl (by rfl) (fun W' hW => by
            skip
            go_simp) ?_
          simp only [List.setIfInBounds_toArray, List.set_cons_zero, List.set_cons_succ]
          refine wpX_vt 9 (.int .i64 (k : Int)) rfl rfl (by kernel_rfl) (by kernel_rfl) (by kernel_rfl) (fun _ _ _ _ h => h) (by kernel_rfl) rfl (by rfl) (fun W' hW => by
            skip
            go_simp) ?_
          simp only [List.setIfInBounds_toArray, List.set_cons_zero, List.set_cons_succ]
          refine wpX_vt 10 (.int .i64 (k2 : Int)) rfl rfl (by kernel_rfl) (by kernel_rfl) (by kernel_rfl) (fun _ _ _ _ h => h) (by kernel_rfl) rfl (by rfl) (fun W' hW => by
            skip
            go_simp) ?_
          simp only [List.setIfInBounds_toArray, List.set_cons_zero, List.set_cons_succ]
          refine wpX_vt 11 (.pointer (some ⟨bp, op + k2, none⟩)) rfl rfl (by kernel_rfl) (by kernel_rfl) (by kernel_rfl) (fun _ _ _ _ h => h) (by kernel_rfl) rfl (by rfl) (fun W' hW => by
            skip
            go_simp) ?_
          simp only [List.setIfInBounds_toArray, List.set_cons_zero, List.set_cons_succ]
          refine wpX_vt 12 (.int .i64 q2) rfl rfl (by kernel_rfl) (by kernel_rfl) (by kernel_rfl) (fun _ _ _ _ h => h) (by kernel_rfl) rfl (by rfl) (fun W' hW => by
            have z := (((Ext.refl wI).drew).trans hW).cell hc2
            go_simp) ?_
          simp only [List.setIfInBounds_toArray, List.set_cons_zero, List.set_cons_succ]
          refine wpX_vt 13 (.int .i64 m2) rfl rfl (by kernel_rfl) (by kernel_rfl) (by kernel_rfl) (fun _ _ _ _ h => h) (by kernel_rfl) rfl (by rfl) (fun W' hW => by
            skip
            go_simp) ?_
          simp only [List.setIfInBounds_toArray, List.set_cons_zero, List.set_cons_succ]
          refine wpX_vt 14 (.slice (some ⟨bp, op, none⟩) n1 c1) rfl rfl (by kernel_rfl) (by kernel_rfl) (by kernel_rfl) (fun _ _ _ _ h => h) (by kernel_rfl) rfl (by rfl) (fun W' hW => by
            skip
            go_simp) ?_
          simp only [List.setIfInBounds_toArray, List.set_cons_zero, List.set_cons_succ]
          refine wpX_vt 15 (.int .i64 (k : Int)) rfl rfl (by kernel_rfl) (by kernel_rfl) (by kernel_rfl) (fun _ _ _ _ h => h) (by kernel_rfl) rfl (by rfl) (fun W' hW => by
            skip
            go_simp) ?_
          simp only [List.setIfInBounds_toArray, List.set_cons_zero, List.set_cons_succ]
          refine wpX_vt 16 (.int .i64 (k3 : Int)) rfl rfl (by kernel_rfl) (by kernel_rfl) (by kernel_rfl) (fun _ _ _ _ h => h) (by kernel_rfl) rfl (by rfl) (fun W' hW => by
            skip
            go_simp) ?_
          simp only [List.setIfInBounds_toArray, List.set_cons_zero, List.set_cons_succ]
          refine wpX_vt 17 (.pointer (some ⟨bp, op + k3, none⟩)) rfl rfl (by kernel_rfl) (by kernel_rfl) (by kernel_rfl) (fun _ _ _ _ h => h) (by kernel_rfl) rfl (by rfl) (fun W' hW => by
            skip
            go_simp) ?_
          simp only [List.setIfInBounds_toArray, List.set_cons_zero, List.set_cons_succ]
          refine wpX_vt 18 (.int .i64 q3) rfl rfl (by kernel_rfl) (by kernel_rfl) (by kernel_rfl) (fun _ _ _ _ h => h) (by kernel_rfl) rfl (by rfl) (fun W' hW => by
            have z := (((Ext.refl wI).drew).trans hW).cell hc3
            go_simp) ?_
          simp only [List.setIfInBounds_toArray, List.set_cons_zero, List.set_cons_succ]
          refine wpX_vt 19 (.int .i64 m3) rfl rfl (by kernel_rfl) (by kernel_rfl) (by kernel_rfl) (fun _ _ _ _ h => h) (by kernel_rfl) rfl (by rfl) (fun W' hW => by
            skip
            go_simp) ?_
          simp only [List.setIfInBounds_toArray, List.set_cons_zero, List.set_cons_succ]
          refine wpX_vt 20 (.int .i64 S1) rfl rfl (by kernel_rfl) (by kernel_rfl) (by kernel_rfl) (fun _ _ _ _ h => h) (by kernel_rfl) rfl (by rfl) (fun W' hW => by
            skip
            go_simp) ?_
          simp only [List.setIfInBounds_toArray, List.set_cons_zero, List.set_cons_succ]
          refine wpX_vt 21 (.slice (some ⟨bp, op, none⟩) n1 c1) rfl rfl (by kernel_rfl) (by kernel_rfl) (by kernel_rfl) (fun _ _ _ _ h => h) (by kernel_rfl) rfl (by rfl) (fun W' hW => by
            skip
            go_simp) ?_
          simp only [List.setIfInBounds_toArray, List.set_cons_zero, List.set_cons_succ]
          refine wpX_vt 22 (.int .i64 (k : Int)) rfl rfl (by kernel_rfl) (by kernel_rfl) (by kernel_rfl) (fun _ _ _ _ h => h) (by kernel_rfl) rfl (by rfl) (fun W' hW => by
            skip
            go_simp) ?_
          simp only [List.setIfInBounds_toArray, List.set_cons_zero, List.set_cons_succ]
          refine wpX_vt 23 (.pointer (some ⟨bp, op + k, none⟩)) rfl rfl (by kernel_rfl) (by kernel_rfl) (by kernel_rfl) (fun _ _ _ _ h => h) (by kernel_rfl) rfl (by rfl) (fun W' hW => by
            skip
            go_simp) ?_
          simp only [List.setIfInBounds_toArray, List.set_cons_zero, List.set_cons_succ]
          refine wpX_vt 24 (.int .i64 q0) rfl rfl (by kernel_rfl) (by kernel_rfl) (by kernel_rfl) (fun _ _ _ _ h => h) (by kernel_rfl) rfl (by rfl) (fun W' hW => by
            have z := (((Ext.refl wI).drew).trans hW).cell hc0
            go_simp) ?_
          simp only [List.setIfInBounds_toArray, List.set_cons_zero, List.set_cons_succ]
          refine wpX_vt 25 (.int .i64 m4) rfl rfl (by kernel_rfl) (by kernel_rfl) (by kernel_rfl) (fun _ _ _ _ h => h) (by kernel_rfl) rfl (by rfl) (fun W' hW => by
            skip
            go_simp) ?_
          simp only [List.setIfInBounds_toArray, List.set_cons_zero, List.set_cons_succ]
          refine wpX_vt 26 (.bool mk) rfl rfl (by kernel_rfl) (by kernel_rfl) (by kernel_rfl) (fun _ _ _ _ h => h) (by kernel_rfl) rfl (by rfl) (fun W' hW => by
            skip
            go_simp) ?_
          simp only [List.setIfInBounds_toArray, List.set_cons_zero, List.set_cons_succ]
          refine wpX_vt 27 (.agg #[.int .i64 A1, .int .i64 m2, .int .i64 S1, .bool mk]) rfl rfl (by kernel_rfl) (by kernel_rfl) (by kernel_rfl) (fun _ _ _ _ h => h) (by kernel_rfl) rfl (by rfl) (fun W' hW => by
            skip
            go_simp) ?_
          simp only [List.setIfInBounds_toArray, List.set_cons_zero, List.set_cons_succ]
          refine wpX_end rfl fun W7 hW7 => Land.mk fun g10 hg10 hz => ?_
          refine tail_seq 29 rfl (by kernel_rfl) ?_
          simp only [List.drop_succ_cons, List.drop_zero, List.setIfInBounds_toArray, List.set_cons_zero, List.set_cons_succ]
          have hX7 : Ext wI W7 := ((Ext.refl wI).drew).trans hW7
          have hstr := run_storeAt_blk (P := Try.prog) W7 g10 53 53 _ #[.int .i64 A1, .int .i64 m2, .int .i64 S1, .bool mk] hz rw_size rfl (by simp [Value.oneCell'])
          have hG10 := setRow_heap W7 g10 _ #[.int .i64 A1, .int .i64 m2, .int .i64 S1, .bool mk] _ _ hz
          have hX8 : Ext wI (W7.setRow g10 #[.int .i64 A1, .int .i64 m2, .int .i64 S1, .bool mk]) := hX7.grown (gsetRow W7 g10 #[.int .i64 A1, .int .i64 m2, .int .i64 S1, .bool mk]) (fun k e => by cases e; exact hg10)
          go_wp2_with first | refine wpList_store_run rfl 53 (.tmp 10) (.tmp 77) rfl _ _ _ rfl rfl hstr ?_
          refine NoPanic.normal ?_
          clear hstr hz hX7 hW7 hc0 hc1 hc2 hc3 hm1 hm2 hm3 hm4 hmk hA1 hS1 hw1 hw2 hw3 hi0 hi1 hi2 hi3
          generalize W7.setRow g10 #[.int .i64 A1, .int .i64 m2, .int .i64 S1, .bool mk] = w3 at *
          obtain ⟨r0, r1, r2, r3⟩ := blkR hG10
          go_upto_if 80 with fail
          go_cut [80] (fun _ wx => ∃ r : LRow, wx.heap[g10]? = some (.cells #[.int .i64 r.addr, .int .i64 r.ctx, .int .i64 r.stmt, .bool r.mark] 53 (0, 0)) ∧ r.addr = A1 ∧ (0 ≤ r.ctx ∧ r.ctx ≤ 255 ∧ -1 ≤ r.stmt ∧ r.stmt ≤ 9999) ∧ (r.stmt = -1 → r.ctx = 0 ∧ r.mark = false) ∧ Ext wI wx)
          case first =>
            by_cases hs : S1 < 0
            · have d : decide (S1 < 0) = true := by simp; omega
              have f1 := blk_free hG10 1
              have hlt := heap_lt hG10
              have s1 := gset w3 ⟨g10, 1, none⟩ (.int .i64 0)
              have hb1 : (w3.setCell ⟨g10, 1, none⟩ (.int .i64 0)).heap[g10]? = some (.cells #[.int .i64 A1, .int .i64 0, .int .i64 S1, .bool mk] 53 (0, 0)) := blk_set hG10 1 _
              have s2 := gset (w3.setCell ⟨g10, 1, none⟩ (.int .i64 0)) ⟨g10, 3, none⟩ (.bool false)
              have f3 := blk_free hb1 3
              have q3 := blk_at hb1 3 _ rfl
              have hlt3 := heap_lt hb1
              go_wp2_with fail
              go_meet
              exact ⟨⟨A1, 0, S1, false⟩, blk_set hb1 3 _, rfl, by simp only; omega, fun _ => ⟨rfl, rfl⟩, (hX8.grown s1 (fun k e => by cases e; exact hg10)).grown s2 (fun k e => by cases e; exact hg10)⟩
            · have d : decide (S1 < 0) = false := by simp; omega
              go_wp2_with fail
              go_meet
              exact ⟨⟨A1, m2, S1, mk⟩, hG10, rfl, by simp only; omega, fun h => (by have h' : S1 = -1 := h; omega), hX8⟩
          obtain ⟨wJ, rfl⟩ : ∃ W : World, W = wc := ⟨_, rfl⟩
          obtain ⟨r, hG10, hra, hr1', hr2', hX9⟩ := hcut
          clear r0 r1 r2 r3 hX8
          have har : av ≤ r.addr ∧ r.addr ≤ av + 39 := by omega
          clear hra
          obtain ⟨Y, cy, hy, _, _⟩ := hown.inR
          obtain ⟨nr, hnr⟩ : ∃ n, n = rows.length := ⟨_, rfl⟩
          rw [← hnr] at hy
          subst hy
          have HNR := Lib.hid hnr
          have hG8b := hX9.heap hG8
          obtain ⟨t0, t1, t2⟩ := blkT hG8b
          obtain ⟨r0, r1, r2, r3⟩ := blkR hG10
          clear hnr
          go_upto_region 15 with fail
          go_cut [92] (fun s wx => ∃ d : Bool, s = .bool d ∧ (d = true ↔ nr ≠ 0 ∧ r.addr = av) ∧ wx = wJ)
          case first =>
            by_cases h1 : 0 < nr
            · have d1 : decide ((0 : Int) < (nr : Int)) = true := by simp; omega
              by_cases h2 : r.addr = av
              · have d2 : (r.addr == av) = true := by simp [h2]
                have H2 := Lib.hid h2
                clear h2
                go_wp2_with fail
                go_meet
                exact ⟨true, rfl, ⟨fun _ => ⟨by omega, H2.out⟩, fun _ => rfl⟩, rfl⟩
              · have d2 : (r.addr == av) = false := by simp [h2]
                have H2 := Lib.hid h2
                clear h2
                go_wp2_with fail
                go_meet
                exact ⟨false, rfl, ⟨fun h => (by cases h), fun h => absurd h.2 H2.out⟩, rfl⟩
            · have d1 : decide ((0 : Int) < (nr : Int)) = false := by simp; omega
              go_wp2_with fail
              go_meet
              exact ⟨false, rfl, ⟨fun h => (by cases h), fun h => absurd h.1 (by omega)⟩, rfl⟩
          obtain ⟨d, rfl, hd, hwe⟩ := hcut
          obtain ⟨wK, rfl⟩ : ∃ W : World, W = wc := ⟨_, rfl⟩
          subst hwe
          go_upto_if 92 with fail
          go_cut [92] (fun _ wx => ∃ r3 : LRow, wx.heap[g10]? = some (.cells #[.int .i64 r3.addr, .int .i64 r3.ctx, .int .i64 r3.stmt, .bool r3.mark] 53 (0, 0)) ∧ (av ≤ r3.addr ∧ r3.addr ≤ av + 41) ∧ (nr ≠ 0 → av + 1 ≤ r3.addr) ∧ (0 ≤ r3.ctx ∧ r3.ctx ≤ 255 ∧ -1 ≤ r3.stmt ∧ r3.stmt ≤ 9999) ∧ (r3.stmt = -1 → r3.ctx = 0 ∧ r3.mark = false) ∧ Ext wI wx)
          case first =>
            cases d with
            | true =>
              have hwr : IntKind.i64.wrap (r.addr + 1) = r.addr + 1 := by rw [IntKind.wrap_i64]; omega
              have f0 := blk_free hG10 0
              have hlt0 := heap_lt hG10
              have s0 := gset wK ⟨g10, 0, none⟩ (.int .i64 (r.addr + 1))
              clear hd
              go_wp2_with fail
              go_meet
              exact ⟨⟨r.addr + 1, r.ctx, r.stmt, r.mark⟩, blk_set hG10 0 _, by simp only; omega, fun _ => (by simp only; omega), hr1', hr2', hX9.grown s0 (fun k e => by cases e; exact hg10)⟩
            | false =>
              have hnd : nr ≠ 0 → av + 1 ≤ r.addr := fun h => by
                by_cases e : r.addr = av
                · have := hd.2 ⟨h, e⟩
                  cases this
                · omega
              clear hd
              go_wp2_with fail
              go_meet
              exact ⟨r, hG10, by omega, hnd, hr1', hr2', hX9⟩
          obtain ⟨wL, rfl⟩ : ∃ W : World, W = wc := ⟨_, rfl⟩
          clear hX9 hG10 har hr1' hr2' hd hG8b t0 t1 t2 r0 r1 r2 r3
          obtain ⟨rn, hG10, har, hnd, hr1', hr2', hX9⟩ := hcut
          have hG8b := hX9.heap hG8
          obtain ⟨t0, t1, t2⟩ := blkT hG8b
          obtain ⟨r0, r1, r2, r3⟩ := blkR hG10
          have hldr := run_loadAt_blk (P := Try.prog) wL g10 53 53 _ (0, 0) _ hG10 Try.underlying53 rfl rw_size
          have hA5 := (Ext.refl wL).alloc (.cells #[.int .i64 rn.addr, .int .i64 rn.ctx, .int .i64 rn.stmt, .bool rn.mark] 53)
          have hin5 : InR lrowCells (wL.alloc (.cells #[.int .i64 rn.addr, .int .i64 rn.ctx, .int .i64 rn.stmt, .bool rn.mark] 53)) (.slice (some ⟨wL.heap.size, 0, none⟩) 1 1) [rn] := (OwnR_one (f := lrowCells) wL rn rfl 53).inR
          have hXO := (hXz.trans hX9).trans hA5
          have hsz5 := hXO.size
          have hown5 := hown.ext (hX9.trans hA5)
          go_wp2_with first | refine wpList_load_run rfl 53 (.tmp 10) rfl _ _ rfl hldr ?_ | refine wpList_rowOne elem_rw rfl (.tmp 99) rfl #[.int .i64 rn.addr, .int .i64 rn.ctx, .int .i64 rn.stmt, .bool rn.mark] rfl rfl (by omega) ?_ | (at_builtin; go_must (refine wpList_appendR elem_rw rfl (.tmp 98) (.tmp 100) rfl wO.heap.size _ rows rfl hown5 _ [rn] rfl hin5 (fun _ _ => rfl) (fun a _ u hu => by simp only [lrowCells, List.mem_cons, List.not_mem_nil, or_false] at hu; rcases hu with rfl | rfl | rfl | rfl <;> rfl) (by have := HNR.out; simp only [List.length_cons, List.length_nil]; omega) (by omega) hsz5 (Hold.out ?_)))
          refine Hold.mk fun v9 w9 ho9 hg9 => ?_
          have hXO9 : Ext wO w9 := hg9.ext hXO hown5.ge
          have hr8 := blk_grown (hA5.heap hG8b) hg9.grown (fun e => hown5.ne_blk (hA5.heap hG8b) (by decide) e.symm)
          have hr10 := blk_grown (hA5.heap hG10) hg9.grown (fun e => by have := hown.lt g10 e.symm; omega)
          obtain ⟨V9, d9, hv9, _, _⟩ := ho9.inR
          obtain ⟨n9, hn9⟩ : ∃ n9, n9 = (rows ++ [rn]).length := ⟨_, rfl⟩
          rw [← hn9] at hv9
          subst hv9
          clear hn9
          have f2 := blk_free hr8 2
          have q2' := blk_at hr8 2 _ rfl
          have hlt2 := heap_lt hr8
          clear hg9 hldr hA5 hin5 hXO hsz5 hown5 t0 t1 t2 r0 r1 r2 r3 hG8b hG10 hX9
          go_upto_region 18 with fail
          have s8 := gset w9 ⟨g8, 2, none⟩ (.slice V9 n9 d9)
          have hG8n : (w9.setCell ⟨g8, 2, none⟩ (.slice V9 n9 d9)).heap[g8]? = some (.cells #[.int .i64 lo8, .int .i64 0, .slice V9 n9 d9] 46 (0, 0)) := blk_set hr8 2 _
          have hG10n := blk_grown hr10 s8 (fun e => ne_of_types hr10 hr8 (by decide) (by cases e; rfl))
          have ho9n := ho9.kept s8 (.inr (ho9.ne_blk hr8 (by decide)))
          have hXOn := hXO9.grown s8 (fun k e => by cases e; exact hg8w)
          clear s8 hr8 hr10 ho9 hXO9 f2 q2' hlt2
          generalize w9.setCell ⟨g8, 2, none⟩ (.slice V9 n9 d9) = wM at *
          obtain ⟨r0, r1, r2, r3⟩ := blkR hG10n
          have hw4 : IntKind.i64.wrap ((k : Int) + 4) = ((k + 4 : Nat) : Int) := by rw [IntKind.wrap_i64]; omega
          have HIn : Hid (IG lo8 rn.addr (rows ++ [rn])) := Lib.hid (HI.out.push har (fun h => hnd (fun e => h (by have := HNR.out; rw [e] at this; exact List.length_eq_zero_iff.1 this.symm))) hr1' hr2')
          have HKn : Hid (k + 4 = a + 1 + 4 * (rows ++ [rn]).length) := Lib.hid (by have := HK.out; rw [List.length_append]; simp only [List.length_cons, List.length_nil]; omega)
          clear hG10n
          go_wp2_with fail
          go_roundw
          case rel => exact ⟨k + 4, rn.addr, rows ++ [rn], _, by first | (with_reducible rfl) | go_num, HKn, by omega, rfl, hG8n, ho9n, HIn, hXOn⟩
          case measure => simp [intOf]; omega
        | false =>
          clear hd
          subst hwe
          obtain ⟨wI, rfl⟩ : ∃ W : World, W = wc := ⟨_, rfl⟩
          have hI1 := HI.out.low
          have hI2 := HI.out.top
          have hrl : rows.length ≤ 200 := by have := HK.out; omega
          have hwr : IntKind.i64.wrap (av + 1) = av + 1 := by rw [IntKind.wrap_i64]; omega
          obtain ⟨Y, cy, hy, _, _⟩ := hown.inR
          obtain ⟨nr, hnr⟩ : ∃ n, n = rows.length := ⟨_, rfl⟩
          rw [← hnr] at hy
          subst hy
          clear hnr
          have f1 := blk_free hG8 1
          have q1' := blk_at hG8 1 _ rfl
          have hlt1 := heap_lt hG8
          go_upto_region 20 with fail
          have s8 := gset wI ⟨g8, 1, none⟩ (.int .i64 (av + 1))
          have hG8n : (wI.setCell ⟨g8, 1, none⟩ (.int .i64 (av + 1))).heap[g8]? = some (.cells #[.int .i64 lo8, .int .i64 (av + 1), .slice Y nr cy] 46 (0, 0)) := blk_set hG8 1 _
          have hon := hown.kept s8 (.inr (hown.ne_blk hG8 (by decide)))
          have hXOn := hXz.grown s8 (fun k e => by cases e; exact hg8w)
          clear s8 hG8 hown f1 q1' hlt1
          generalize wI.setCell ⟨g8, 1, none⟩ (.int .i64 (av + 1)) = wM at *
          obtain ⟨t0, t1, t2⟩ := blkT hG8n
          have hTM := hT.ext hXOn
          obtain ⟨zt, hz1, hz2, hz3⟩ := hTM
          have HZ1 := Lib.hid hz1
          have HZ3 := Lib.hid hz3
          have hzl : zt.length ≤ 8 := by have : zt.length = l.length := by rw [← hz1]; simp
                                         omega
          clear hz1 hz3
          obtain ⟨tt, htt⟩ : ∃ tt : LTab, tt = ⟨lo8, av + 1, rows⟩ := ⟨_, rfl⟩
          have hldt := run_loadAt_blk (P := Try.prog) wM g8 46 46 _ (0, 0) _ hG8n Try.underlying46 rfl lt_size
          have hA5 := (Ext.refl wM).alloc (.cells #[.int .i64 lo8, .int .i64 (av + 1), .slice Y nr cy] 46)
          have hin5 : InR ltabCells (wM.alloc (.cells #[.int .i64 lo8, .int .i64 (av + 1), .slice Y nr cy] 46)) (.slice (some ⟨wM.heap.size, 0, none⟩) 1 1) [(tt, .slice Y nr cy)] := by
            rw [htt]; exact (OwnR_one (f := ltabCells) wM (⟨lo8, av + 1, rows⟩, .slice Y nr cy) rfl 46).inR
          have hXM := (hX1.trans hXOn).trans hA5
          have hsz5 := hXM.size
          have HTT := Lib.hid htt
          clear htt
          go_wp2_with first | refine wpList_load_run rfl 46 (.tmp 8) rfl _ _ rfl hldt ?_ | refine wpList_rowOne elem_lt rfl (.tmp 111) rfl #[.int .i64 lo8, .int .i64 (av + 1), .slice Y nr cy] rfl rfl (by omega) ?_ | (at_builtin; go_must (refine wpList_appendR elem_lt rfl (.tmp 110) (.tmp 112) rfl w1.heap.size _ zt rfl (hz2.ext hA5) _ [(tt, .slice Y nr cy)] rfl hin5 (fun _ _ => rfl) (fun a ha u hu => by simp only [List.mem_singleton] at ha; subst ha; simp only [ltabCells, List.mem_cons, List.not_mem_nil, or_false] at hu; rcases hu with rfl | rfl | rfl <;> rfl) (by simp only [List.length_cons, List.length_nil]; omega) (by omega) hsz5 (Hold.out ?_)))
          refine Hold.mk fun v9 w9 ho9 hg9 => ?_
          have hTn : TabsOwn w1.heap.size w9 v9 (l ++ [tt]) := by
            refine ⟨zt ++ [(tt, .slice Y nr cy)], by rw [List.map_append, HZ1.out]; rfl, ho9, fun z hz => ?_⟩
            have hne : ∀ (z : LTab × Value), OwnR lrowCells 4 53 w1.heap.size (wM.alloc (.cells #[.int .i64 lo8, .int .i64 (av + 1), .slice Y nr cy] 46)) z.2 z.1.rows → OwnR lrowCells 4 53 w1.heap.size w9 z.2 z.1.rows := fun z hzz => hzz.kept hg9.grown (row_ne hzz (hz2.ext hA5) (by decide))
            rcases List.mem_append.1 hz with hz | hz
            · exact hne z ((HZ3.out z hz).ext hA5)
            · simp only [List.mem_singleton] at hz
              subst hz
              refine hne _ ?_
              rw [HTT.out]
              exact (hon.low hX1.size).ext hA5
          have hX19 : Ext w1 w9 := hg9.ext hXM hz2.ge
          have hX9 : Ext w w9 := hx1.trans hX19
          have hTGn : TG (l ++ [tt]) (av + 1) k := by
            have h := HG.out.push (t := tt) (a := av) (at2 := k) (by rw [HTT.out]; exact HI.out) (by rw [HTT.out]; exact hl8) (by rw [HTT.out]) (by rw [HTT.out]; have := HK.out; simp only; omega) (by omega) (by omega)
            rw [HTT.out] at h ⊢
            exact h
          have hb1 := hTGn.pos
          have hb2 := hTGn.top
          have hb3 := hTGn.rows
          have hb4 : (l ++ [tt]).length = n + 1 := by rw [List.length_append]; simp only [List.length_cons, List.length_nil]; omega
          rw [hb4] at hb2
          have HTG := Lib.hid hTGn
          have HB4 := Lib.hid hb4
          have hlon : 0 ≤ av + 1 ∧ av + 1 ≤ 100000 := by omega
          clear hldt hA5 hin5 hXM hsz5 ho9 hg9 hz2 hTGn hb1 hb2 hb3 hb4 t0 t1 t2 hG8n hon hT
          go_wp2_with fail
          go_roundw
          case rel => exact ⟨l ++ [tt], k, av + 1, n + 1, by first | (with_reducible rfl) | go_num, by omega, HB4.out, rfl, by omega, by first | (with_reducible rfl) | go_num, hlon, hTn, HTG, hX9, hX19⟩
          case measure => simp [intOf]; omega
end Go.Proofs.Ytokmbdeafjmcjaa
