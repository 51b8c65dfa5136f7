/- What may be encoded: the walk of cfi.Right. -/
import Derived.Test.YtokmbdeafjmcjaaCfR
namespace Go.Proofs.Ytokmbdeafjmcjaa
open Go.RowKit
set_option linter.unusedVariables false

theorem okStps_len {hi : Int} : ∀ {l : List Stp} {next : Int}, okStps next hi l → l ≠ [] → next + l.length ≤ hi
  | [], _, _, h => absurd rfl h
  | [r], next, h, _ => by have h1 := h.1; unfold okStp at h1; simp; omega
  | r :: s :: l, next, h, _ => by
    have h1 := h.1
    unfold okStp at h1
    have h2 := okStps_len h.2 (by simp)
    simp only [List.length_cons] at *
    omega
theorem itemsN_drop (l : List FTab) (j : Nat) : itemsN l = itemsN (l.take j) + itemsN (l.drop j) := by
  unfold itemsN
  rw [← List.sum_append, ← List.map_append, List.take_append_drop]
theorem itemsN_succ {l : List FTab} {j : Nat} (h : j < l.length) : itemsN (l.take (j + 1)) = itemsN (l.take j) + (l[j].steps.length + l[j].objs.length) := by
  unfold itemsN
  rw [List.take_succ_eq_append_getElem h, List.map_append, List.sum_append]
  simp only [List.map_cons, List.map_nil, List.sum_cons, List.sum_nil, Nat.add_zero]
theorem itemsN_le' {l : List FTab} {j : Nat} (h : j < l.length) : itemsN (l.take j) + (l[j].steps.length + l[j].objs.length) ≤ itemsN l := by
  have h1 := itemsN_drop l (j + 1)
  rw [itemsN_succ h] at h1
  omega
theorem wrap_in {x : Int} (h : -9223372036854775808 ≤ x ∧ x ≤ 9223372036854775807) : IntKind.i64.wrap x = x := by rw [IntKind.wrap_i64]; omega
theorem wrap_over {x : Int} (h : 9223372036854775808 ≤ x ∧ x ≤ 27670116110564327423) : IntKind.i64.wrap x = x - 18446744073709551616 := by rw [IntKind.wrap_i64]; omega
theorem wrap_sum {N a b : Nat} (hN : N ≤ 8000) (ha : a ≤ 9223372036854775807) (hb : b ≤ 9223372036854775807) :
    (8000 < IntKind.i64.wrap ((N : Int) + IntKind.i64.wrap ((a : Int) + (b : Int))) → 8000 < N + (a + b)) ∧
    (a ≤ 1048576 → b ≤ 6144 → IntKind.i64.wrap ((N : Int) + IntKind.i64.wrap ((a : Int) + (b : Int))) = ((N + (a + b) : Nat) : Int)) := by
  constructor
  · intro h
    by_cases h1 : a + b ≤ 8000
    · rw [wrap_in (x := (a : Int) + b) (by omega), wrap_in (by omega)] at h
      omega
    · omega
  · intro h1 h2
    rw [wrap_in (x := (a : Int) + b) (by omega), wrap_in (by omega)]
    omega
set_option maxHeartbeats 40000000 in
set_option maxRecDepth 100000 in
theorem FRight_any (l : List FTab) (v : Value) (w : World) (hv : FTabs w v l) (hI : ∀ t ∈ l, t.I) (hl : l.length ≤ 9223372036854775807) : Calls Try.prog 15 #[v] w (Tells (RightF l) w) := by
  obtain ⟨A, c, rfl⟩ := hv.form
  have HV := Lib.hid hv
  have HI := Lib.hid hI
  clear hv hI
  go_enter Try.func15, Try.ntmps15
  by_cases h8 : 8 < l.length
  case pos =>
    have d8 : decide ((8 : Int) < (l.length : Int)) = true := by simp; omega
    go_wp2_with fail
    go_ret
    exact Tells.no (fun h => by have := h.1; omega) (Ext.refl _)
  have d8 : decide ((8 : Int) < (l.length : Int)) = false := by simp; omega
  go_wp2_with fail
  go_loopw [3, 4, 12] (fun n e i wr => ∃ (j : Nat) (N : Nat) (e' : Int), j ≤ l.length ∧ i = .int .i64 (j : Int) ∧ n = .int .i64 (N : Int) ∧ e = .int .i64 e' ∧ N ≤ 8000 ∧ (0 ≤ e' ∧ e' ≤ 1048576) ∧ Hid (N = itemsN (l.take j)) ∧ Hid (okFs 0 l ↔ okFs e' (l.drop j)) ∧ Ext w wr) (fun _ _ i _ => l.length - (intOf i).toNat)
  case atStart => exact ⟨0, 0, 0, by omega, rfl, rfl, rfl, by omega, by omega, Lib.hid (by simp [itemsN]), Lib.hid (by rw [List.drop_zero]), Ext.refl _⟩
  case round =>
    obtain ⟨j, N, e, hj, rfl, rfl, rfl, hN, he, HN, HR, hX⟩ := hrel
    obtain ⟨wo, rfl⟩ : ∃ wo : World, wo = wr := ⟨_, rfl⟩
    by_cases hlt : j < l.length
    · have hij : (j : Int) < (l.length : Int) := by omega
      obtain ⟨bb, oo, y, z, rfl, hra, hrw1, hrw2⟩ := (HV.out.ext hX).at_ hlt
      have HD := Lib.hid (List.drop_eq_getElem_cons hlt)
      have HLE := Lib.hid (itemsN_le' hlt)
      have HSU := Lib.hid (itemsN_succ hlt)
      have HTI := Lib.hid (HI.out _ (List.getElem_mem hlt))
      generalize l[j] = t at *
      have hlo := HTI.out.lo
      have hhi := HTI.out.hi
      have hlen1 := HTI.out.steps
      have hlen2 := HTI.out.objs
      obtain ⟨A2, c2, rfl, _, _⟩ := id hrw1
      obtain ⟨A3, c3, rfl, _, _⟩ := id hrw2
      have hld := ftab_load hra
      obtain ⟨hst, hG, hXG⟩ := box_new (P := Try.prog) wo 27 #[.int .i64 0, .int .i64 0, .slice none 0 0, .slice none 0 0] #[.int .i64 t.lo, .int .i64 t.hi, .slice A2 t.steps.length c2, .slice A3 t.objs.length c3] ft_size rfl (by simp [Value.oneCell'])
      go_upto_region 7 with first | refine wpList_load_run rfl 27 (.tmp 14) rfl _ _ rfl hld ?_ | refine wpList_store_run rfl 27 (.tmp 6) (.tmp 15) rfl _ _ _ rfl rfl hst ?_
      obtain ⟨g, hg⟩ : ∃ g, g = wo.heap.size := ⟨_, rfl⟩
      rw [← hg] at hG hXG ⊢
      generalize (wo.alloc (.cells #[.int .i64 0, .int .i64 0, .slice none 0 0, .slice none 0 0] 27)).setRow g #[.int .i64 t.lo, .int .i64 t.hi, .slice A2 t.steps.length c2, .slice A3 t.objs.length c3] = wg at *
      dsimp only [Act.put]
      obtain ⟨r0, r1, r2, r3⟩ := blkR hG
      have hXX := hX.trans hXG
      have hrwA := hrw1.ext hXG
      have hrwB := hrw2.ext hXG
      clear hst hld hra hXG hX hg hrw1 hrw2
      go_cut [36] (fun s wx => ∃ d : Bool, s = .bool d ∧ (d = false ↔ okF e t) ∧ wx = wg)
      case first =>
        by_cases e1 : t.lo < e
        case pos =>
          have t1 : decide (t.lo < e) = true := by first | (simpa using e1) | (simp; omega)
          go_wp2_with fail
          go_meet
          exact ⟨true, rfl, ⟨fun h => (by cases h), fun h => (by unfold okF at h; omega)⟩, rfl⟩
        have t1 : decide (t.lo < e) = false := by first | (simpa using e1) | (simp; omega)
        by_cases e2 : 1048576 < t.lo
        case pos =>
          have t2 : decide (1048576 < t.lo) = true := by first | (simpa using e2) | (simp; omega)
          go_wp2_with fail
          go_meet
          exact ⟨true, rfl, ⟨fun h => (by cases h), fun h => (by unfold okF at h; omega)⟩, rfl⟩
        have t2 : decide (1048576 < t.lo) = false := by first | (simpa using e2) | (simp; omega)
        by_cases e3 : t.hi < t.lo
        case pos =>
          have t3 : decide (t.hi < t.lo) = true := by first | (simpa using e3) | (simp; omega)
          go_wp2_with fail
          go_meet
          exact ⟨true, rfl, ⟨fun h => (by cases h), fun h => (by unfold okF at h; omega)⟩, rfl⟩
        have t3 : decide (t.hi < t.lo) = false := by first | (simpa using e3) | (simp; omega)
        by_cases e4 : 1048576 < t.hi
        case pos =>
          have t4 : decide (1048576 < t.hi) = true := by first | (simpa using e4) | (simp; omega)
          go_wp2_with fail
          go_meet
          exact ⟨true, rfl, ⟨fun h => (by cases h), fun h => (by unfold okF at h; omega)⟩, rfl⟩
        have t4 : decide (1048576 < t.hi) = false := by first | (simpa using e4) | (simp; omega)
        go_wp2_with fail
        go_meet
        exact ⟨false, rfl, ⟨fun _ => (by unfold okF; omega), fun _ => rfl⟩, rfl⟩
      obtain ⟨d, rfl, hd, hwe⟩ := hcut
      subst hwe
      obtain ⟨wI, rfl⟩ : ∃ W : World, W = wc := ⟨_, rfl⟩
      cases d with
      | true =>
        go_wp2_with fail
        go_ret
        refine Tells.no (fun h => ?_) hXX
        have h2 := HR.out.1 h.2.1
        rw [HD.out] at h2
        have := hd.2 h2.1
        cases this
      | false =>
        have hok : okF e t := hd.1 rfl
        have HOKT := Lib.hid hok
        unfold okF at hok
        clear hd
        obtain ⟨hw1, hw2⟩ := wrap_sum (N := N) hN hlen1 hlen2
        obtain ⟨mv, hmv⟩ : ∃ mv : Int, IntKind.i64.wrap ((t.steps.length : Int) + (t.objs.length : Int)) = mv := ⟨_, rfl⟩
        rw [hmv] at hw1 hw2
        obtain ⟨nv, hnv⟩ : ∃ nv : Int, IntKind.i64.wrap ((N : Int) + mv) = nv := ⟨_, rfl⟩
        rw [hnv] at hw1 hw2
        have hnr : -9223372036854775808 ≤ nv ∧ nv ≤ 9223372036854775807 := by rw [← hnv, IntKind.wrap_i64]; omega
        have HW1 := Lib.hid hw1
        have HW2 := Lib.hid hw2
        clear hw1 hw2
        by_cases h80 : 8000 < nv
        case pos =>
          have d80 : decide (8000 < nv) = true := by simp; omega
          go_wp2_with fail
          go_ret
          refine Tells.no (fun h => ?_) hXX
          have h1 := h.2.2
          have h2 := HLE.out
          have h3 := HN.out
          have h4 := HW1.out h80
          omega
        have d80 : decide (8000 < nv) = false := by simp; omega
        have hldt := run_loadAt_blk (P := Try.prog) wI g 27 27 _ (0, 0) _ hG Try.underlying27 rfl ft_size
        go_wp2_with fail
        refine (rightSteps_any t _ _ wI hrwA hrwB HTI.out).mono ?_
        rintro en w9 ⟨r, rfl, hr, hx9⟩
        have hX9 := hXX.trans hx9
        cases r with
        | false =>
          go_wp2_with fail
          go_ret
          refine Tells.no (fun h => ?_) hX9
          have h2 := HR.out.1 h.2.1
          rw [HD.out] at h2
          have := hr.2 h2.2.1
          cases this
        | true =>
          have HRW := Lib.hid (hr.1 rfl)
          clear hr
          have hle : t.steps.length ≤ 1048576 := by
            by_cases h0 : t.steps = []
            · rw [h0]; simp
            · have := okStps_len HRW.out h0
              omega
          obtain ⟨p0, p1, p2, p3⟩ := blkR (hx9.heap hG)
          clear r0 r1 r2 r3 hldt
          go_wp2_with fail
          refine (rightObjects_any t.objs _ w9 (hrwB.ext hx9) hlen2).mono ?_
          rintro en w10 ⟨r, rfl, hr, hx10⟩
          have hX10 := hX9.trans hx10
          cases r with
          | false =>
            go_wp2_with fail
            go_ret
            refine Tells.no (fun h => ?_) hX10
            have h2 := HR.out.1 h.2.1
            rw [HD.out] at h2
            have := hr.2 h2.2.2.1
            cases this
          | true =>
            have HRO := Lib.hid (hr.1 rfl)
            clear hr
            have hle2 := okObjs_len HRO.out
            have hn3 := HW2.out hle hle2
            obtain ⟨N2, hN2⟩ : ∃ N2, N2 = N + (t.steps.length + t.objs.length) := ⟨_, rfl⟩
            rw [← hN2] at hn3
            subst hn3
            have HN2 : Hid (N2 = itemsN (l.take (j + 1))) := Lib.hid (by rw [HSU.out, ← HN.out, hN2])
            have HOK2 : Hid (okFs 0 l ↔ okFs t.hi (l.drop (j + 1))) := Lib.hid (by
              rw [HR.out, HD.out]
              exact ⟨fun h => h.2.2.2, fun h => ⟨HOKT.out, HRW.out, HRO.out, h⟩⟩)
            have hN28 : N2 ≤ 8000 := by omega
            clear hnr HD HR HN hN2 p0 p1 p2 p3
            go_wp2_with fail
            go_roundw
            case rel => exact ⟨j + 1, N2, t.hi, by omega, by first | (with_reducible rfl) | go_num, by first | (with_reducible rfl) | go_num, by first | (with_reducible rfl) | go_num, hN28, by omega, HN2, HOK2, hX10⟩
            case measure => simp [intOf]; omega
    · have hij : ¬ (j : Int) < (l.length : Int) := by omega
      have HT : Hid (RightF l) := Lib.hid ⟨by omega, by rw [HR.out, List.drop_of_length_le (by omega)]; trivial, by have := HN.out; rw [List.take_of_length_le (by omega)] at this; omega⟩
      go_wp2_with fail
      go_ret
      exact Tells.yes HT.out hX
end Go.Proofs.Ytokmbdeafjmcjaa
