/- What may be encoded: the walk of locs.Right. -/
import Derived.Test.YtokmbdeafjmcjaaLcD
namespace Go.Proofs.Ytokmbdeafjmcjaa
open Go.RowKit
set_option linter.unusedVariables false
set_option linter.unusedSimpArgs false

theorem rngsN_drop (l : List PTab) (j : Nat) : rngsN l = rngsN (l.take j) + rngsN (l.drop j) := by
  unfold rngsN
  rw [← List.sum_append, ← List.map_append, List.take_append_drop]
theorem rngsN_succ {l : List PTab} {j : Nat} (h : j < l.length) : rngsN (l.take (j + 1)) = rngsN (l.take j) + l[j].ranges.length := by
  unfold rngsN
  rw [List.take_succ_eq_append_getElem h, List.map_append, List.sum_append]
  simp only [List.map_cons, List.map_nil, List.sum_cons, List.sum_nil, Nat.add_zero]
theorem rngsN_le {l : List PTab} {j : Nat} (h : j < l.length) : rngsN (l.take j) + l[j].ranges.length ≤ rngsN l := by
  have h1 := rngsN_drop l (j + 1)
  rw [rngsN_succ h] at h1
  omega
theorem wrap_in19 {x : Int} (h : -9223372036854775808 ≤ x ∧ x ≤ 9223372036854775807) : IntKind.i64.wrap x = x := by rw [IntKind.wrap_i64]; omega
theorem wrap_add19 {N a : Nat} (hN : N ≤ 8000) (ha : a ≤ 9223372036854775807) :
    (8000 < IntKind.i64.wrap ((N : Int) + (a : Int)) → 8000 < N + a) ∧ (a ≤ 25769803776 → IntKind.i64.wrap ((N : Int) + (a : Int)) = ((N + a : Nat) : Int)) := by
  constructor
  · intro h
    by_cases h1 : N + a ≤ 8000
    · rw [wrap_in19 (by omega)] at h
      omega
    · omega
  · intro h1
    rw [wrap_in19 (by omega)]
    omega
set_option maxHeartbeats 40000000 in
set_option maxRecDepth 100000 in
theorem PRight_any (l : List PTab) (v : Value) (w : World) (hv : PTabs w v l) (hI : ∀ t ∈ l, t.I) (hl : l.length ≤ 9223372036854775807) : Calls Try.prog 40 #[v] w (Tells (RightP l) w) := by
  obtain ⟨A, c, rfl⟩ := hv.form
  have HV := Lib.hid hv
  have HI := Lib.hid hI
  clear hv hI
  go_enter Try.func40, Try.ntmps40
  by_cases h8 : 8 < l.length
  case pos =>
    have d8 : decide ((8 : Int) < (l.length : Int)) = true := by simp; omega
    go_wp2_with fail
    go_ret
    exact Tells.no (fun h => by have := h.1; omega) (Ext.refl _)
  have d8 : decide ((8 : Int) < (l.length : Int)) = false := by simp; omega
  go_wp2_with fail
  go_loopw [3, 4, 12] (fun n e i wr => ∃ (j : Nat) (N : Nat) (e' : Int), j ≤ l.length ∧ i = .int .i64 (j : Int) ∧ n = .int .i64 (N : Int) ∧ e = .int .i64 e' ∧ N ≤ 8000 ∧ (0 ≤ e' ∧ e' ≤ 1048576) ∧ Hid (N = rngsN (l.take j)) ∧ Hid (okPs 0 l ↔ okPs e' (l.drop j)) ∧ Ext w wr) (fun _ _ i _ => l.length - (intOf i).toNat)
  case atStart => exact ⟨0, 0, 0, by omega, rfl, rfl, rfl, by omega, by omega, Lib.hid (by simp [rngsN]), Lib.hid (by rw [List.drop_zero]), Ext.refl _⟩
  case round =>
    obtain ⟨j, N, e, hj, rfl, rfl, rfl, hN, he, HN, HR, hX⟩ := hrel
    obtain ⟨wo, rfl⟩ : ∃ wo : World, wo = wr := ⟨_, rfl⟩
    by_cases hlt : j < l.length
    · have hij : (j : Int) < (l.length : Int) := by omega
      obtain ⟨bb, oo, y, rfl, hra, hrw⟩ := (HV.out.ext hX).at_ hlt
      have HD := Lib.hid (List.drop_eq_getElem_cons hlt)
      have HLE := Lib.hid (rngsN_le hlt)
      have HSU := Lib.hid (rngsN_succ hlt)
      have HTI := Lib.hid (HI.out _ (List.getElem_mem hlt))
      generalize l[j] = t at *
      have hlo := HTI.out.lo
      have hhi := HTI.out.hi
      have hlen1 := HTI.out.len
      obtain ⟨A2, c2, rfl⟩ := hrw.form
      obtain ⟨n2, hn2⟩ : ∃ n, n = t.ranges.length := ⟨_, rfl⟩
      have hld := ptab_load hra
      rw [← hn2] at hld hrw hlen1 HLE HSU
      have HN2 := Lib.hid hn2
      clear hn2
      obtain ⟨hst, hG, hXG⟩ := box_new (P := Try.prog) wo 66 #[.int .i64 0, .int .i64 0, .slice none 0 0] #[.int .i64 t.lo, .int .i64 t.hi, .slice A2 n2 c2] pl_size rfl (by simp [Value.oneCell'])
      go_upto_region 7 with first | refine wpList_load_run rfl 66 (.tmp 14) rfl _ _ rfl hld ?_ | refine wpList_store_run rfl 66 (.tmp 6) (.tmp 15) rfl _ _ _ rfl rfl hst ?_
      obtain ⟨g, hg⟩ : ∃ g, g = wo.heap.size := ⟨_, rfl⟩
      rw [← hg] at hG hXG ⊢
      generalize (wo.alloc (.cells #[.int .i64 0, .int .i64 0, .slice none 0 0] 66)).setRow g #[.int .i64 t.lo, .int .i64 t.hi, .slice A2 n2 c2] = wg at *
      dsimp only [Act.put]
      obtain ⟨r0, r1, r2⟩ := blkT hG
      have hXX := hX.trans hXG
      have hrwA := hrw.ext hXG
      clear hst hld hra hXG hX hg hrw
      go_cut [36] (fun s wx => ∃ d : Bool, s = .bool d ∧ (d = false ↔ okP e t) ∧ wx = wg)
      case first =>
        by_cases e1 : t.lo < e
        case pos =>
          have t1 : decide (t.lo < e) = true := by first | (simpa using e1) | (simp; omega)
          go_wp2_with fail
          go_meet
          exact ⟨true, rfl, ⟨fun h => (by cases h), fun h => (by unfold okP at h; omega)⟩, rfl⟩
        have t1 : decide (t.lo < e) = false := by first | (simpa using e1) | (simp; omega)
        by_cases e2 : 1048576 < t.lo
        case pos =>
          have t2 : decide (1048576 < t.lo) = true := by first | (simpa using e2) | (simp; omega)
          go_wp2_with fail
          go_meet
          exact ⟨true, rfl, ⟨fun h => (by cases h), fun h => (by unfold okP at h; omega)⟩, rfl⟩
        have t2 : decide (1048576 < t.lo) = false := by first | (simpa using e2) | (simp; omega)
        by_cases e3 : t.hi < t.lo
        case pos =>
          have t3 : decide (t.hi < t.lo) = true := by first | (simpa using e3) | (simp; omega)
          go_wp2_with fail
          go_meet
          exact ⟨true, rfl, ⟨fun h => (by cases h), fun h => (by unfold okP at h; omega)⟩, rfl⟩
        have t3 : decide (t.hi < t.lo) = false := by first | (simpa using e3) | (simp; omega)
        by_cases e4 : 1048576 < t.hi
        case pos =>
          have t4 : decide (1048576 < t.hi) = true := by first | (simpa using e4) | (simp; omega)
          go_wp2_with fail
          go_meet
          exact ⟨true, rfl, ⟨fun h => (by cases h), fun h => (by unfold okP at h; omega)⟩, rfl⟩
        have t4 : decide (1048576 < t.hi) = false := by first | (simpa using e4) | (simp; omega)
        go_wp2_with fail
        go_meet
        exact ⟨false, rfl, ⟨fun _ => (by unfold okP; omega), fun _ => rfl⟩, rfl⟩
      obtain ⟨d, rfl, hd, hwe⟩ := hcut
      subst hwe
      obtain ⟨wI, rfl⟩ : ∃ W : World, W = wc := ⟨_, rfl⟩
      cases d with
      | true =>
        go_wp2_with fail
        go_ret
        refine Tells.no (fun h => ?_) hXX
        have h2 := HR.out.1 h.2.1
        rw [HD.out] at h2
        have := hd.2 h2.1
        cases this
      | false =>
        have hok : okP e t := hd.1 rfl
        have HOKT := Lib.hid hok
        unfold okP at hok
        clear hd
        obtain ⟨hw1, hw2⟩ := wrap_add19 (N := N) hN hlen1
        obtain ⟨nv, hnv⟩ : ∃ nv : Int, IntKind.i64.wrap ((N : Int) + (n2 : Int)) = nv := ⟨_, rfl⟩
        rw [hnv] at hw1 hw2
        have hnr : -9223372036854775808 ≤ nv ∧ nv ≤ 9223372036854775807 := by rw [← hnv, IntKind.wrap_i64]; omega
        have HW1 := Lib.hid hw1
        have HW2 := Lib.hid hw2
        clear hw1 hw2
        by_cases h80 : 8000 < nv
        case pos =>
          have d80 : decide (8000 < nv) = true := by simp; omega
          go_wp2_with fail
          go_ret
          refine Tells.no (fun h => ?_) hXX
          have h1 := h.2.2
          have h2 := HLE.out
          have h3 := HN.out
          have h4 := HW1.out h80
          omega
        have d80 : decide (8000 < nv) = false := by simp; omega
        go_wp2_with fail
        have hrr := rightRanges_any t (.slice A2 n2 c2) wI hrwA HTI.out
        refine hrr.mono ?_
        rintro en w9 ⟨r, rfl, hr, hx9⟩
        have hX9 := hXX.trans hx9
        clear hrr
        cases r with
        | false =>
          go_wp2_with fail
          go_ret
          refine Tells.no (fun h => ?_) hX9
          have h2 := HR.out.1 h.2.1
          rw [HD.out] at h2
          have := hr.2 h2.2.1
          cases this
        | true =>
          have HRW := Lib.hid (hr.1 rfl)
          clear hr
          have hle := okRngs_len HRW.out (by omega) (by omega)
          rw [← HN2.out] at hle
          have hn3 := HW2.out hle
          obtain ⟨N2, hN2⟩ : ∃ N2, N2 = N + n2 := ⟨_, rfl⟩
          rw [← hN2] at hn3
          subst hn3
          have HN3 : Hid (N2 = rngsN (l.take (j + 1))) := Lib.hid (by rw [HSU.out, ← HN.out, hN2])
          have HOK2 : Hid (okPs 0 l ↔ okPs t.hi (l.drop (j + 1))) := Lib.hid (by
            rw [HR.out, HD.out]
            exact ⟨fun h => h.2.2, fun h => ⟨HOKT.out, HRW.out, h⟩⟩)
          have hN28 : N2 ≤ 8000 := by omega
          clear hnr HD HR HN hN2 r0 r1 r2
          go_wp2_with fail
          go_roundw
          case rel => exact ⟨j + 1, N2, t.hi, by omega, by first | (with_reducible rfl) | go_num, by first | (with_reducible rfl) | go_num, by first | (with_reducible rfl) | go_num, hN28, by omega, HN3, HOK2, hX9⟩
          case measure => simp [intOf]; omega
    · have hij : ¬ (j : Int) < (l.length : Int) := by omega
      have HT : Hid (RightP l) := Lib.hid ⟨by omega, by rw [HR.out, List.drop_of_length_le (by omega)]; trivial, by have := HN.out; rw [List.take_of_length_le (by omega)] at this; omega⟩
      go_wp2_with fail
      go_ret
      exact Tells.yes HT.out hX
end Go.Proofs.Ytokmbdeafjmcjaa
