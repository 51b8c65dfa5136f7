/- What may be encoded: the walk of Right. -/
import Derived.Test.YtokmbdeafjmcjaaLinB
namespace Go.Proofs.Ytokmbdeafjmcjaa
open Go.RowKit
set_option linter.unusedVariables false

theorem rowsN_drop (l : List LTab) (j : Nat) : rowsN l = rowsN (l.take j) + rowsN (l.drop j) := by
  unfold rowsN
  rw [← List.sum_append, ← List.map_append, List.take_append_drop]
theorem rowsN_succ {l : List LTab} {j : Nat} (h : j < l.length) : rowsN (l.take (j + 1)) = rowsN (l.take j) + l[j].rows.length := by
  unfold rowsN
  rw [List.take_succ_eq_append_getElem h, List.map_append, List.sum_append]
  simp only [List.map_cons, List.map_nil, List.sum_cons, List.sum_nil, Nat.add_zero]
theorem rowsN_le {l : List LTab} {j : Nat} (h : j < l.length) : rowsN (l.take j) + l[j].rows.length ≤ rowsN l := by
  have h1 := rowsN_drop l (j + 1)
  rw [rowsN_succ h] at h1
  omega
set_option maxHeartbeats 4000000 in
set_option maxRecDepth 100000 in
theorem Right_any (l : List LTab) (v : Value) (w : World) (hv : LTabs w v l) (hI : ∀ t ∈ l, t.I) (hl : l.length ≤ 9223372036854775807) : Calls Try.prog 28 #[v] w (Tells (RightL l) w) := by
  obtain ⟨A, c, rfl⟩ := hv.form
  have HV := Lib.hid hv
  have HI := Lib.hid hI
  clear hv hI
  go_enter Try.func28, Try.ntmps28
  by_cases h8 : 8 < l.length
  case pos =>
    have d8 : decide ((8 : Int) < (l.length : Int)) = true := by simp; omega
    go_wp2_with fail
    go_ret
    exact Tells.no (fun h => by have := h.1; omega) (Ext.refl _)
  have d8 : decide ((8 : Int) < (l.length : Int)) = false := by simp; omega
  go_wp2_with fail
  go_loopw [3, 4, 12] (fun n e i wr => ∃ (j : Nat) (N : Nat) (e' : Int), j ≤ l.length ∧ i = .int .i64 (j : Int) ∧ n = .int .i64 (N : Int) ∧ e = .int .i64 e' ∧ N ≤ 8000 ∧ (0 ≤ e' ∧ e' ≤ 1048576) ∧ Hid (N = rowsN (l.take j)) ∧ Hid (okTabs 0 l ↔ okTabs e' (l.drop j)) ∧ Ext w wr) (fun _ _ i _ => l.length - (intOf i).toNat)
  case atStart => exact ⟨0, 0, 0, by omega, rfl, rfl, rfl, by omega, by omega, Lib.hid (by simp [rowsN]), Lib.hid (by rw [List.drop_zero]), Ext.refl _⟩
  case round =>
    obtain ⟨j, N, e, hj, rfl, rfl, rfl, hN, he, HN, HR, hX⟩ := hrel
    obtain ⟨wo, rfl⟩ : ∃ wo : World, wo = wr := ⟨_, rfl⟩
    by_cases hlt : j < l.length
    · have hij : (j : Int) < (l.length : Int) := by omega
      obtain ⟨bb, oo, y, rfl, hra, hrows⟩ := (HV.out.ext hX).at_ hlt
      have HD := Lib.hid (List.drop_eq_getElem_cons hlt)
      have HLE := Lib.hid (rowsN_le hlt)
      have HSU := Lib.hid (rowsN_succ hlt)
      have HTI := Lib.hid (HI.out _ (List.getElem_mem hlt))
      generalize l[j] = t at *
      have hlo := HTI.out.lo
      have hhi := HTI.out.hi
      have hlen := HTI.out.len
      obtain ⟨A2, c2, rfl, _, _⟩ := id hrows
      have hld := ltab_load hra
      obtain ⟨hst, hG, hXG⟩ := box_new (P := Try.prog) wo 46 #[.int .i64 0, .int .i64 0, .slice none 0 0] #[.int .i64 t.lo, .int .i64 t.hi, .slice A2 t.rows.length c2] lt_size rfl (by simp [Value.oneCell'])
      go_upto_region 7 with first | refine wpList_load_run rfl 46 (.tmp 14) rfl _ _ rfl hld ?_ | refine wpList_store_run rfl 46 (.tmp 6) (.tmp 15) rfl _ _ _ rfl rfl hst ?_
      obtain ⟨g, hg⟩ : ∃ g, g = wo.heap.size := ⟨_, rfl⟩
      rw [← hg] at hG hXG ⊢
      generalize (wo.alloc (.cells #[.int .i64 0, .int .i64 0, .slice none 0 0] 46)).setRow g #[.int .i64 t.lo, .int .i64 t.hi, .slice A2 t.rows.length c2] = wg at *
      dsimp only [Act.put]
      obtain ⟨r0, r1, r2⟩ := blkT hG
      have hXX := hX.trans hXG
      have hrw := hrows.ext hXG
      clear hst hld hra hG hXG hX hg hrows
      go_cut [36] (fun s wx => ∃ d : Bool, s = .bool d ∧ (d = false ↔ okTab e t) ∧ wx = wg)
      case first =>
        by_cases e1 : t.lo < e
        case pos =>
          have t1 : decide (t.lo < e) = true := by first | (simpa using e1) | (simp; omega)
          go_wp2_with fail
          go_meet
          exact ⟨true, rfl, ⟨fun h => (by cases h), fun h => (by unfold okTab at h; omega)⟩, rfl⟩
        have t1 : decide (t.lo < e) = false := by first | (simpa using e1) | (simp; omega)
        by_cases e2 : 1048576 < t.lo
        case pos =>
          have t2 : decide (1048576 < t.lo) = true := by first | (simpa using e2) | (simp; omega)
          go_wp2_with fail
          go_meet
          exact ⟨true, rfl, ⟨fun h => (by cases h), fun h => (by unfold okTab at h; omega)⟩, rfl⟩
        have t2 : decide (1048576 < t.lo) = false := by first | (simpa using e2) | (simp; omega)
        by_cases e3 : t.hi < t.lo
        case pos =>
          have t3 : decide (t.hi < t.lo) = true := by first | (simpa using e3) | (simp; omega)
          go_wp2_with fail
          go_meet
          exact ⟨true, rfl, ⟨fun h => (by cases h), fun h => (by unfold okTab at h; omega)⟩, rfl⟩
        have t3 : decide (t.hi < t.lo) = false := by first | (simpa using e3) | (simp; omega)
        by_cases e4 : 1048576 < t.hi
        case pos =>
          have t4 : decide (1048576 < t.hi) = true := by first | (simpa using e4) | (simp; omega)
          go_wp2_with fail
          go_meet
          exact ⟨true, rfl, ⟨fun h => (by cases h), fun h => (by unfold okTab at h; omega)⟩, rfl⟩
        have t4 : decide (1048576 < t.hi) = false := by first | (simpa using e4) | (simp; omega)
        go_wp2_with fail
        go_meet
        exact ⟨false, rfl, ⟨fun _ => (by unfold okTab; omega), fun _ => rfl⟩, rfl⟩
      obtain ⟨d, rfl, hd, rfl⟩ := hcut
      cases d with
      | true =>
        go_wp2_with fail
        go_ret
        refine Tells.no (fun h => ?_) hXX
        have h2 := HR.out.1 h.2.1
        rw [HD.out] at h2
        have := hd.2 h2.1
        cases this
      | false =>
        have hok : okTab e t := hd.1 rfl
        have HOKT := Lib.hid hok
        unfold okTab at hok
        clear hd
        obtain ⟨nv, hnv, hnr, hn1, hn2⟩ : ∃ nv : Int, IntKind.i64.wrap ((N : Int) + (t.rows.length : Int)) = nv ∧ (-9223372036854775808 ≤ nv ∧ nv ≤ 9223372036854775807) ∧ nv ≤ N + t.rows.length ∧ (t.rows.length ≤ 1048576 → nv = ((N + t.rows.length : Nat) : Int)) := ⟨_, rfl, by rw [IntKind.wrap_i64]; omega, by rw [IntKind.wrap_i64]; omega, fun h => by rw [IntKind.wrap_i64]; omega⟩
        by_cases h80 : 8000 < nv
        case pos =>
          have d80 : decide (8000 < nv) = true := by simp; omega
          go_wp2_with fail
          go_ret
          refine Tells.no (fun h => ?_) hXX
          have h1 := h.2.2
          have h2 := HLE.out
          have h3 := HN.out
          omega
        have d80 : decide (8000 < nv) = false := by simp; omega
        go_wp2_with fail
        refine (rightRows_any t _ wc hrw HTI.out).mono ?_
        rintro en w9 ⟨r, rfl, hr, hx9⟩
        have hX9 := hXX.trans hx9
        cases r with
        | false =>
          go_wp2_with fail
          go_ret
          refine Tells.no (fun h => ?_) hX9
          have h2 := HR.out.1 h.2.1
          rw [HD.out] at h2
          have := hr.2 h2.2.1
          cases this
        | true =>
          have HRW := Lib.hid (hr.1 rfl)
          clear hr
          have hle : t.rows.length ≤ 1048576 := by
            by_cases h0 : t.rows = []
            · rw [h0]; simp
            · have := okRows_len HRW.out h0
              omega
          have hne := hn2 hle
          have HN2 : Hid (N + t.rows.length = rowsN (l.take (j + 1))) := Lib.hid (by rw [HSU.out, ← HN.out])
          have HR2 : Hid (okTabs 0 l ↔ okTabs t.hi (l.drop (j + 1))) := Lib.hid (by
            rw [HR.out, HD.out]
            exact ⟨fun h => h.2.2, fun h => ⟨HOKT.out, HRW.out, h⟩⟩)
          clear hnv hn1 hn2
          subst hne
          clear hrw r0 r1 r2 hx9 hXX HR HN HSU HLE HD
          go_wp2_with fail
          go_roundw
          case rel => exact ⟨j + 1, N + t.rows.length, t.hi, by omega, by first | (with_reducible rfl) | go_num, by first | (with_reducible rfl) | go_num, rfl, by omega, by omega, HN2, HR2, hX9⟩
          case measure => simp [intOf]; omega
    · have hij : ¬ (j : Int) < (l.length : Int) := by omega
      have HT : Hid (RightL l) := Lib.hid ⟨by omega, by rw [HR.out, List.drop_of_length_le (by omega)]; trivial, by have := HN.out; rw [List.take_of_length_le (by omega)] at this; omega⟩
      go_wp2_with fail
      go_ret
      exact Tells.yes HT.out hX
end Go.Proofs.Ytokmbdeafjmcjaa
