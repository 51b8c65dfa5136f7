/- Contracts of evaluate.Equal and of the reference's Equal. -/
import Derived.Test.YtmabaldbilkcjaaWatchA
namespace Go.Proofs.Ytmabaldbilkcjaa
open Go.RowKit
set_option linter.unusedVariables false

theorem sameW_step {a b : Dat} {k : Nat} (h : ∀ j, j < k → a.known.getD j true = true → a.words[j]? = b.words[j]?) (hk : a.known.getD k true = true → a.words[k]? = b.words[k]?) :
    ∀ j, j < k + 1 → a.known.getD j true = true → a.words[j]? = b.words[j]? := fun j hj hn => by
  by_cases e : j = k
  · subst e; exact hk hn
  · exact h j (by omega) hn

set_option maxHeartbeats 1000000 in
set_option maxRecDepth 100000 in
theorem Equal_any (u v : Value) (a b : Dat) (w : World) (hu : DatAt w u a) (hv : DatAt w v b)
    (ha1 : a.known.length ≤ 1073741824) (ha2 : a.words.length ≤ 1073741824) (hb1 : b.known.length ≤ 1073741824) (hb2 : b.words.length ≤ 1073741824) :
    Calls Try.prog 14 #[u, v] w (Tells (sameD a b) w) := by
  obtain ⟨x, y, rfl, hx, hy⟩ := hu
  obtain ⟨x', y', rfl, hx', hy'⟩ := hv
  have hX := hx
  have hX' := hx'
  obtain ⟨A1, c1, rfl, _, hr1⟩ := hx
  obtain ⟨A2, c2, rfl, _, hr2⟩ := hy
  obtain ⟨A3, c3, rfl, _, hr3⟩ := hx'
  obtain ⟨A4, c4, rfl, _, hr4⟩ := hy'
  by_cases h1 : a.kind = b.kind
  · by_cases h2 : a.record = b.record
    · have e1 : (a.kind != b.kind) = false := by simp [h1]
      have e2 : (a.record != b.record) = false := by simp [h2]
      have H1 := Lib.hid h1
      have H2 := Lib.hid h2
      clear h1 h2
      go_enter Try.func14, Try.ntmps14
      go_wp2_with fail
      refine (equalBools_any _ _ a.known b.known _ (hX.ext (((Ext.refl w).alloc _).alloc _)) (hX'.ext (((Ext.refl w).alloc _).alloc _)) (by omega) (by omega)).mono ?_
      rintro e w1 ⟨rfl, n, rfl⟩
      clear e1 e2
      by_cases h3 : a.known = b.known
      · by_cases h4 : a.words.length = b.words.length
        · have e4 : ((a.words.length : Int) != (b.words.length : Int)) = false := by simp [h4]
          have H3 := Lib.hid h3
          have H4 := Lib.hid h4
          rw [decide_eq_true h3]
          clear h3 h4
          go_wp2_with fail
          clear e4
          go_loop [39] (fun i => ∃ k : Nat, k ≤ a.words.length ∧ i = .int .i64 (k : Int) ∧ ∀ j, j < k → a.known.getD j true = true → a.words[j]? = b.words[j]?) (fun i => a.words.length - (intOf i).toNat)
          case atStart => exact ⟨0, Nat.zero_le _, rfl, fun j hj => absurd hj (by omega)⟩
          case round =>
            obtain ⟨k, hk, rfl, hall⟩ := hrel
            have HA := Lib.hid hall
            clear hall
            by_cases hlt : k < a.words.length
            · have hlt4 : k < b.words.length := by have := H4.out; omega
              obtain ⟨b2, o2, rfl, hc2⟩ := hr2.int hlt
              obtain ⟨b4, o4, rfl, hc4⟩ := hr4.int hlt4
              have hB2 := World.block_lt_of_cell? _ _ hc2
              have hB4 := World.block_lt_of_cell? _ _ hc4
              simp only at hB2 hB4
              have hi2 : (k : Int) < (a.words.length : Int) := by omega
              have hi4 : (k : Int) < (b.words.length : Int) := by omega
              have HW : Hid (a.words[k]? = some a.words[k]) := Lib.hid (List.getElem?_eq_getElem hlt)
              have HW4 : Hid (b.words[k]? = some b.words[k]) := Lib.hid (List.getElem?_eq_getElem hlt4)
              generalize a.words[k] = p at *
              generalize b.words[k] = q at *
              by_cases h5 : a.known.length ≤ k
              · have h5' : (a.known.length : Int) ≤ (k : Int) := by omega
                have HK : Hid (a.known.getD k true = true) := Lib.hid (by simp [List.getD, List.getElem?_eq_none h5])
                by_cases h6 : p = q
                · have e6 : (p != q) = false := by simp [h6]
                  have H6 := Lib.hid h6
                  clear h6
                  go_wp2_with fail
                  go_round
                  case rel => exact ⟨k + 1, by omega, by go_num, sameW_step HA.out fun _ => by rw [HW.out, HW4.out, H6.out]⟩
                  case measure => simp [intOf]; omega
                · have e6 : (p != q) = true := by simpa using h6
                  go_wp2_with fail
                  go_ret
                  exact Tells.no (fun h => absurd (h.2.2.2.2 k hlt HK.out) (by rw [HW.out, HW4.out]; simpa using h6)) ((((Ext.refl w).alloc _).alloc _).drewN n)
              · obtain ⟨b1, o1, rfl, hc1⟩ := hr1.bool (k := k) (by omega)
                have hB1 := World.block_lt_of_cell? _ _ hc1
                simp only at hB1
                have h5' : ¬ (a.known.length : Int) ≤ (k : Int) := by omega
                have h5'' : (k : Int) < (a.known.length : Int) := by omega
                have HK : Hid (a.known.getD k true = a.known[k]'(by omega)) := Lib.hid (by simp [List.getD, List.getElem?_eq_getElem (show k < a.known.length by omega)])
                obtain ⟨kb, hkb⟩ : ∃ kb, kb = a.known[k]'(by omega) := ⟨_, rfl⟩
                rw [← hkb] at hc1
                have HK' : Hid (a.known.getD k true = kb) := by rw [hkb]; exact HK
                clear HK hkb
                cases kb with
                | false =>
                  go_wp2_with fail
                  go_round
                  case rel => exact ⟨k + 1, by omega, by go_num, sameW_step HA.out fun h => by rw [HK'.out] at h; cases h⟩
                  case measure => simp [intOf]; omega
                | true =>
                  by_cases h6 : p = q
                  · have e6 : (p != q) = false := by simp [h6]
                    have H6 := Lib.hid h6
                    clear h6
                    go_wp2_with fail
                    go_round
                    case rel => exact ⟨k + 1, by omega, by go_num, sameW_step HA.out fun _ => by rw [HW.out, HW4.out, H6.out]⟩
                    case measure => simp [intOf]; omega
                  · have e6 : (p != q) = true := by simpa using h6
                    go_wp2_with fail
                    go_ret
                    exact Tells.no (fun h => absurd (h.2.2.2.2 k hlt HK'.out) (by rw [HW.out, HW4.out]; simpa using h6)) ((((Ext.refl w).alloc _).alloc _).drewN n)
            · go_wp2_with fail
              go_ret
              exact Tells.yes ⟨H1.out, H2.out, H3.out, H4.out, fun j hj hn => HA.out j (by omega) hn⟩ ((((Ext.refl w).alloc _).alloc _).drewN n)
        · have e4 : ((a.words.length : Int) != (b.words.length : Int)) = true := by simp; omega
          rw [decide_eq_true h3]
          clear h3
          go_wp2_with fail
          go_ret
          exact Tells.no (fun h => absurd h.2.2.2.1 h4) ((((Ext.refl w).alloc _).alloc _).drewN n)
      · rw [decide_eq_false h3]
        have H3 := Lib.hid h3
        clear h3
        go_wp2_with fail
        go_ret
        exact Tells.no (fun h => absurd h.2.2.1 H3.out) ((((Ext.refl w).alloc _).alloc _).drewN n)
    · have e1 : (a.kind != b.kind) = false := by simp [h1]
      have e2 : (a.record != b.record) = true := by simpa using h2
      have H2 := Lib.hid h2
      clear h1 h2
      go_enter Try.func14, Try.ntmps14
      go_wp2_with fail
      go_ret
      exact Tells.no (fun h => absurd h.2.1 H2.out) (((Ext.refl w).alloc _).alloc _)
  · have e1 : (a.kind != b.kind) = true := by simpa using h1
    have H1 := Lib.hid h1
    clear h1
    go_enter Try.func14, Try.ntmps14
    go_wp2_with fail
    go_ret
    exact Tells.no (fun h => absurd h.1 H1.out) (((Ext.refl w).alloc _).alloc _)

set_option maxHeartbeats 1000000 in
set_option maxRecDepth 100000 in
theorem refEqual_any (u v : Value) (a b : Dat) (w : World) (hu : DatAt w u a) (hv : DatAt w v b)
    (ha1 : a.known.length ≤ 1073741824) (ha2 : a.words.length ≤ 1073741824) (hb1 : b.known.length ≤ 1073741824) (hb2 : b.words.length ≤ 1073741824) :
    Calls Try.prog 10 #[u, v] w (Tells (sameD a b) w) := by
  obtain ⟨x, y, rfl, hx, hy⟩ := hu
  obtain ⟨x', y', rfl, hx', hy'⟩ := hv
  obtain ⟨A1, c1, rfl, _, hr1⟩ := hx
  obtain ⟨A2, c2, rfl, _, hr2⟩ := hy
  obtain ⟨A3, c3, rfl, _, hr3⟩ := hx'
  obtain ⟨A4, c4, rfl, _, hr4⟩ := hy'
  by_cases h1 : a.kind = b.kind
  · have e1 : (a.kind != b.kind) = false := by simp [h1]
    have H1 := Lib.hid h1
    clear h1
    by_cases h2 : a.record = b.record
    · have e2 : (a.record != b.record) = false := by simp [h2]
      have H2 := Lib.hid h2
      clear h2
      by_cases h3 : a.known.length = b.known.length
      · have e3 : ((a.known.length : Int) != (b.known.length : Int)) = false := by simp [h3]
        have H3 := Lib.hid h3
        clear h3
        by_cases h4 : a.words.length = b.words.length
        · have e4 : ((a.words.length : Int) != (b.words.length : Int)) = false := by simp [h4]
          have H4 := Lib.hid h4
          clear h4
          go_enter Try.func10, Try.ntmps10
          go_wp2_with fail
          clear e1 e2 e3 e4
          have hE0 : Ext w ((w.alloc (.cells #[.int .i64 a.kind, .int .i64 a.record, .slice A1 a.known.length c1, .slice A2 a.words.length c2] 25)).alloc (.cells #[.int .i64 b.kind, .int .i64 b.record, .slice A3 b.known.length c3, .slice A4 b.words.length c4] 25)) := ((Ext.refl w).alloc _).alloc _
          go_loopw [5] (fun i wr => ∃ k n : Nat, k ≤ a.known.length ∧ i = .int .i64 (k : Int) ∧ a.known.take k = b.known.take k ∧ wr = ((w.alloc (.cells #[.int .i64 a.kind, .int .i64 a.record, .slice A1 a.known.length c1, .slice A2 a.words.length c2] 25)).alloc (.cells #[.int .i64 b.kind, .int .i64 b.record, .slice A3 b.known.length c3, .slice A4 b.words.length c4] 25)).drewN n) (fun i _ => a.known.length - (intOf i).toNat)
          case atStart => exact ⟨0, 0, Nat.zero_le _, rfl, rfl, rfl⟩
          case round =>
            obtain ⟨k, n, hk, rfl, htk, rfl⟩ := hrel
            have Htk := Lib.hid htk
            clear htk
            by_cases hlt : k < a.known.length
            · have hlt3 : k < b.known.length := by have := H3.out; omega
              obtain ⟨b1, o1, rfl, hc1⟩ := hr1.bool hlt
              obtain ⟨b3, o3, rfl, hc3⟩ := hr3.bool hlt3
              have hB1 := World.block_lt_of_cell? _ _ hc1
              have hB3 := World.block_lt_of_cell? _ _ hc3
              simp only at hB1 hB3
              have hi1 : (k : Int) < (a.known.length : Int) := by omega
              have hi3 : (k : Int) < (b.known.length : Int) := by omega
              have HE : Hid (a.known[k] = b.known[k] → a.known[k] = b.known[k]) := Lib.hid id
              have HF : Hid (a.known[k] ≠ b.known[k] → a.known ≠ b.known) := Lib.hid fun h e => by
                apply h; congr 1
              obtain ⟨v1, hv1⟩ : ∃ v1, v1 = a.known[k] := ⟨_, rfl⟩
              obtain ⟨v2, hv2⟩ : ∃ v2, v2 = b.known[k] := ⟨_, rfl⟩
              rw [← hv1] at hc1
              rw [← hv2] at hc3
              have HE' : Hid (v1 = v2 → a.known[k] = b.known[k]) := by rw [hv1, hv2]; exact HE
              have HF' : Hid (v1 ≠ v2 → a.known ≠ b.known) := by rw [hv1, hv2]; exact HF
              clear HE HF hv1 hv2
              by_cases hv : v1 = v2
              · subst hv
                have HE := Lib.hid (HE'.out rfl)
                clear HE' HF'
                cases v1
                all_goals
                  go_wp2_with fail
                  go_quiet (fail)
                  go_wp2_with fail
                  go_roundw
                  case rel => exact ⟨k + 1, _, by omega, by go_num, take_step Htk.out hlt hlt3 HE.out, rfl⟩
                  case measure => simp [intOf]; omega
              · have HF := Lib.hid (HF'.out hv)
                clear HE' HF'
                cases v1 <;> cases v2
                · exact absurd rfl hv
                · clear hv
                  go_wp2_with fail
                  go_quiet (fail)
                  go_wp2_with fail
                  go_ret
                  exact Tells.no (fun h => absurd h.2.2.1 HF.out) ((((Ext.refl w).alloc _).alloc _).drewN _ |>.drewN _)
                · clear hv
                  go_wp2_with fail
                  go_quiet (fail)
                  go_wp2_with fail
                  go_ret
                  exact Tells.no (fun h => absurd h.2.2.1 HF.out) ((((Ext.refl w).alloc _).alloc _).drewN _ |>.drewN _)
                · exact absurd rfl hv
            · have HK : Hid (a.known = b.known) := Lib.hid (by
                have h1 := Htk.out
                rw [List.take_of_length_le (by omega), List.take_of_length_le (by have := H3.out; omega)] at h1
                exact h1)
              go_wp2_with fail
              clear hlt hk Htk
              go_loopw [6] (fun i wr => ∃ k n : Nat, k ≤ a.words.length ∧ i = .int .i64 (k : Int) ∧ (∀ j, j < k → a.known.getD j true = true → a.words[j]? = b.words[j]?) ∧ wr = ((w.alloc (.cells #[.int .i64 a.kind, .int .i64 a.record, .slice A1 a.known.length c1, .slice A2 a.words.length c2] 25)).alloc (.cells #[.int .i64 b.kind, .int .i64 b.record, .slice A3 b.known.length c3, .slice A4 b.words.length c4] 25)).drewN n) (fun i _ => a.words.length - (intOf i).toNat)
              case atStart => exact ⟨0, n, Nat.zero_le _, rfl, fun j hj => absurd hj (by omega), rfl⟩
              case round =>
                obtain ⟨k, n, hk, rfl, hall, rfl⟩ := hrel
                have HA := Lib.hid hall
                clear hall
                by_cases hlt : k < a.words.length
                · have hlt4 : k < b.words.length := by have := H4.out; omega
                  obtain ⟨b2, o2, rfl, hc2⟩ := hr2.int hlt
                  obtain ⟨b4, o4, rfl, hc4⟩ := hr4.int hlt4
                  have hB2 := World.block_lt_of_cell? _ _ hc2
                  have hB4 := World.block_lt_of_cell? _ _ hc4
                  simp only at hB2 hB4
                  have hi2 : (k : Int) < (a.words.length : Int) := by omega
                  have hi4 : (k : Int) < (b.words.length : Int) := by omega
                  have HW : Hid (a.words[k]? = some a.words[k]) := Lib.hid (List.getElem?_eq_getElem hlt)
                  have HW4 : Hid (b.words[k]? = some b.words[k]) := Lib.hid (List.getElem?_eq_getElem hlt4)
                  generalize a.words[k] = p at *
                  generalize b.words[k] = q at *
                  by_cases h5 : a.known.length ≤ k
                  · have h5' : decide ((a.known.length : Int) ≤ (k : Int)) = true := by simp; omega
                    have HK2 : Hid (a.known.getD k true = true) := Lib.hid (by simp [List.getD, List.getElem?_eq_none h5])
                    by_cases h6 : p = q
                    · have e6 : (p != q) = false := by simp [h6]
                      have H6 := Lib.hid h6
                      clear h6
                      go_wp2_with fail
                      go_quiet (fail)
                      go_wp2_with fail
                      go_roundw
                      case rel => exact ⟨k + 1, _, by omega, by go_num, sameW_step HA.out fun _ => by rw [HW.out, HW4.out, H6.out], rfl⟩
                      case measure => simp [intOf]; omega
                    · have e6 : (p != q) = true := by simpa using h6
                      go_wp2_with fail
                      go_quiet (fail)
                      go_wp2_with fail
                      go_ret
                      exact Tells.no (fun h => absurd (h.2.2.2.2 k hlt HK2.out) (by rw [HW.out, HW4.out]; simpa using h6)) ((((Ext.refl w).alloc _).alloc _).drewN _ |>.drewN _)
                  · obtain ⟨b1, o1, rfl, hc1⟩ := hr1.bool (k := k) (by omega)
                    have hB1 := World.block_lt_of_cell? _ _ hc1
                    simp only at hB1
                    have h5' : decide ((a.known.length : Int) ≤ (k : Int)) = false := by simp; omega
                    have h5'' : (k : Int) < (a.known.length : Int) := by omega
                    have HK2 : Hid (a.known.getD k true = a.known[k]'(by omega)) := Lib.hid (by simp [List.getD, List.getElem?_eq_getElem (show k < a.known.length by omega)])
                    obtain ⟨kb, hkb⟩ : ∃ kb, kb = a.known[k]'(by omega) := ⟨_, rfl⟩
                    rw [← hkb] at hc1
                    have HK' : Hid (a.known.getD k true = kb) := by rw [hkb]; exact HK2
                    clear HK2 hkb
                    cases kb with
                    | false =>
                      go_wp2_with fail
                      go_quiet (fail)
                      go_wp2_with fail
                      go_roundw
                      case rel => exact ⟨k + 1, _, by omega, by go_num, sameW_step HA.out fun h => by (rw [HK'.out] at h; cases h), rfl⟩
                      case measure => simp [intOf]; omega
                    | true =>
                      by_cases h6 : p = q
                      · have e6 : (p != q) = false := by simp [h6]
                        have H6 := Lib.hid h6
                        clear h6
                        go_wp2_with fail
                        go_quiet (fail)
                        go_wp2_with fail
                        go_roundw
                        case rel => exact ⟨k + 1, _, by omega, by go_num, sameW_step HA.out fun _ => by rw [HW.out, HW4.out, H6.out], rfl⟩
                        case measure => simp [intOf]; omega
                      · have e6 : (p != q) = true := by simpa using h6
                        go_wp2_with fail
                        go_quiet (fail)
                        go_wp2_with fail
                        go_ret
                        exact Tells.no (fun h => absurd (h.2.2.2.2 k hlt HK'.out) (by rw [HW.out, HW4.out]; simpa using h6)) ((((Ext.refl w).alloc _).alloc _).drewN _ |>.drewN _)
                · go_wp2_with fail
                  go_ret
                  exact Tells.yes ⟨H1.out, H2.out, HK.out, H4.out, fun j hj hn => HA.out j (by omega) hn⟩ ((((Ext.refl w).alloc _).alloc _).drewN n)
        · have e4 : ((a.words.length : Int) != (b.words.length : Int)) = true := by simp; omega
          go_enter Try.func10, Try.ntmps10
          go_wp2_with fail
          go_ret
          exact Tells.no (fun h => absurd h.2.2.2.1 h4) (((Ext.refl w).alloc _).alloc _)
      · have e3 : ((a.known.length : Int) != (b.known.length : Int)) = true := by simp; omega
        have H3 := Lib.hid h3
        clear h3
        go_enter Try.func10, Try.ntmps10
        go_wp2_with fail
        go_ret
        exact Tells.no (fun h => absurd (congrArg List.length h.2.2.1) H3.out) (((Ext.refl w).alloc _).alloc _)
    · have e2 : (a.record != b.record) = true := by simpa using h2
      have H2 := Lib.hid h2
      clear h2
      go_enter Try.func10, Try.ntmps10
      go_wp2_with fail
      go_ret
      exact Tells.no (fun h => absurd h.2.1 H2.out) (((Ext.refl w).alloc _).alloc _)
  · have e1 : (a.kind != b.kind) = true := by simpa using h1
    have H1 := Lib.hid h1
    clear h1
    go_enter Try.func10, Try.ntmps10
    go_wp2_with fail
    go_ret
    exact Tells.no (fun h => absurd h.1 H1.out) (((Ext.refl w).alloc _).alloc _)
end Go.Proofs.Ytmabaldbilkcjaa
