/- The walk of debuggerref21.attrs. -/
import Derived.Test.YtopanbcodfkedaaInfC
namespace Go.Proofs.Ytopanbcodfkedaa
open Go.RowKit
set_option linter.unusedVariables false
set_option linter.unusedSimpArgs false

def okA1 (a : Att) : Prop := (1 ≤ a.name ∧ a.name ≤ 63) ∧ (1 ≤ a.form ∧ a.form ≤ 4) ∧ a.text.size ≤ 40 ∧ (a.form = 3 ∨ a.text = ByteArray.empty)
def okA2 (a : Att) : Prop := ¬ (a.form = 1 ∧ (a.value < 0 ∨ 1099511627776 < a.value)) ∧ ¬ (a.form = 4 ∧ a.value ≠ 1) ∧ ¬ (a.form = 3 ∧ a.value ≠ 0)
theorem okAtt_12 (a : Att) : okAtt a ↔ okA1 a ∧ okA2 a := by
  have hz : ByteArray.empty.size = 0 := rfl
  unfold okAtt okA1 okA2
  constructor
  · rintro ⟨h0, h | h | h | h⟩
    · exact ⟨⟨h0, by omega, by rw [h.2.2.2]; decide, .inr h.2.2.2⟩, by omega⟩
    · exact ⟨⟨h0, by omega, by rw [h.2]; decide, .inr h.2⟩, by omega⟩
    · exact ⟨⟨h0, by omega, h.2.2, .inl h.1⟩, by omega⟩
    · exact ⟨⟨h0, by omega, by rw [h.2.2]; decide, .inr h.2.2⟩, by omega⟩
  · rintro ⟨⟨h0, h1, h2, h3⟩, h4⟩
    refine ⟨h0, ?_⟩
    by_cases e3 : a.form = 3
    · exact .inr (.inr (.inl ⟨e3, by omega, h2⟩))
    · have ht : a.text = ByteArray.empty := h3.resolve_left e3
      by_cases e1 : a.form = 1
      · exact .inl ⟨e1, by omega, by omega, ht⟩
      by_cases e2 : a.form = 2
      · exact .inr (.inl ⟨e2, ht⟩)
      exact .inr (.inr (.inr ⟨by omega, by omega, ht⟩))
set_option maxHeartbeats 40000000 in
set_option maxRecDepth 100000 in
theorem refAttrs_any (l : List Att) (v : Value) (w : World) (hv : InR attCells w v l) (hI : ∀ a ∈ l, a.I) (hL : l.length ≤ 9223372036854775807) :
    Calls Try.prog 31 #[v] w (Tells (okAtts l) w) := by
  obtain ⟨A, c, rfl, _⟩ := id hv
  obtain ⟨n, hn⟩ : ∃ n, n = l.length := ⟨_, rfl⟩
  rw [← hn] at hv hL ⊢
  have HN := Lib.hid hn
  have HV := Lib.hid hv
  have HI := Lib.hid hI
  clear hn hv hI
  go_enter Try.func31, Try.ntmps31
  go_wp2_with fail
  go_loopw [8] (fun i wr => ∃ (j : Nat), j ≤ n ∧ i = .int .i64 (j : Int) ∧ Hid (PreA l j) ∧ Ext w wr) (fun i _ => n - (intOf i).toNat)
  case atStart => exact ⟨0, by omega, rfl, Lib.hid (by simp [PreA]), Ext.refl w⟩
  case round =>
    obtain ⟨j, hj, rfl, HP, hX⟩ := hrel
    obtain ⟨wo, rfl⟩ : ∃ wo : World, wo = wr := ⟨_, rfl⟩
    by_cases hlt : j < n
    · have hij : (j : Int) < (n : Int) := by omega
      have hlt' : j < l.length := by rw [← HN.out]; exact hlt
      obtain ⟨bb, oo, hAe, hra⟩ := (HV.out.ext hX).at_ (k := 4) (fun z hz => rfl) (by omega) hlt'
      subst hAe
      have HNO : Hid (¬ okAtt l[j] → ¬ okAtts l) := Lib.hid (fun h h2 => h (h2.2.1 _ (List.getElem_mem hlt')))
      have HNS : Hid (seenA (l.take j) l[j].name = true → ¬ okAtts l) := Lib.hid (fun h h2 => by rw [okAtts_seen h2.2.2 hlt'] at h; cases h)
      have HSU : Hid (okAtt l[j] → seenA (l.take j) l[j].name = false → PreA l (j + 1)) := Lib.hid (fun h h2 => HP.out.succ hlt' h h2)
      have haI := HI.out _ (List.getElem_mem hlt')
      generalize l[j] = a at *
      have hld := att_load hra
      obtain ⟨hst, hG, hXG⟩ := box_new (P := Try.prog) wo 40 #[.int .i64 0, .int .i64 0, .int .i64 0, .string ByteArray.empty] #[.int .i64 a.name, .int .i64 a.form, .int .i64 a.value, .string a.text] at_size rfl (by simp [Value.oneCell'])
      go_upto_region 4 with first | refine wpList_load_run rfl 40 (.tmp 11) rfl _ _ rfl hld ?_ | refine wpList_store_run rfl 40 (.tmp 4) (.tmp 12) rfl _ _ _ rfl rfl hst ?_
      obtain ⟨g4, hg4⟩ : ∃ g, g = wo.heap.size := ⟨_, rfl⟩
      rw [← hg4] at hG hXG ⊢
      generalize (wo.alloc (.cells #[.int .i64 0, .int .i64 0, .int .i64 0, .string ByteArray.empty] 40)).setRow g4 #[.int .i64 a.name, .int .i64 a.form, .int .i64 a.value, .string a.text] = wg at *
      try dsimp only [Act.put]
      have hXg := hX.trans hXG
      obtain ⟨r0, r1, r2, r3⟩ := blkR hG
      clear hst hld hra hXG hX hg4
      have htl := haI.text
      go_cut [46] (fun s wx => ∃ d : Bool, s = .bool d ∧ (d = false ↔ okA1 a) ∧ wx = wg)
      case first =>
        by_cases e1 : a.name < 1
        case pos =>
          have t1 : decide (a.name < 1) = true := by first | (simpa using e1) | (simp; omega)
          have HQ : Hid ((true : Bool) = false ↔ okA1 a) := Lib.hid ⟨fun h => (by cases h), fun h => (by unfold okA1 at h; omega)⟩
          clear e1
          go_wp2_with fail
          go_meet
          exact ⟨true, rfl, HQ.out, rfl⟩
        have t1 : decide (a.name < 1) = false := by first | (simpa using e1) | (simp; omega)
        by_cases e2 : 63 < a.name
        case pos =>
          have t2 : decide (63 < a.name) = true := by first | (simpa using e2) | (simp; omega)
          have HQ : Hid ((true : Bool) = false ↔ okA1 a) := Lib.hid ⟨fun h => (by cases h), fun h => (by unfold okA1 at h; omega)⟩
          clear e2
          go_wp2_with fail
          go_meet
          exact ⟨true, rfl, HQ.out, rfl⟩
        have t2 : decide (63 < a.name) = false := by first | (simpa using e2) | (simp; omega)
        by_cases e3 : a.form < 1
        case pos =>
          have t3 : decide (a.form < 1) = true := by first | (simpa using e3) | (simp; omega)
          have HQ : Hid ((true : Bool) = false ↔ okA1 a) := Lib.hid ⟨fun h => (by cases h), fun h => (by unfold okA1 at h; omega)⟩
          clear e3
          go_wp2_with fail
          go_meet
          exact ⟨true, rfl, HQ.out, rfl⟩
        have t3 : decide (a.form < 1) = false := by first | (simpa using e3) | (simp; omega)
        by_cases e4 : 4 < a.form
        case pos =>
          have t4 : decide (4 < a.form) = true := by first | (simpa using e4) | (simp; omega)
          have HQ : Hid ((true : Bool) = false ↔ okA1 a) := Lib.hid ⟨fun h => (by cases h), fun h => (by unfold okA1 at h; omega)⟩
          clear e4
          go_wp2_with fail
          go_meet
          exact ⟨true, rfl, HQ.out, rfl⟩
        have t4 : decide (4 < a.form) = false := by first | (simpa using e4) | (simp; omega)
        by_cases e5 : 40 < a.text.size
        case pos =>
          have t5 : decide ((40 : Int) < (a.text.size : Int)) = true := by first | (simpa using e5) | (simp; omega)
          have HQ : Hid ((true : Bool) = false ↔ okA1 a) := Lib.hid ⟨fun h => (by cases h), fun h => (by unfold okA1 at h; omega)⟩
          clear e5
          go_wp2_with fail
          go_meet
          exact ⟨true, rfl, HQ.out, rfl⟩
        have t5 : decide ((40 : Int) < (a.text.size : Int)) = false := by first | (simpa using e5) | (simp; omega)
        by_cases e6 : a.form = 3
        case pos =>
          have t6 : (a.form != 3) = false := by simp [e6]
          have t7 : decide (a.form = 3) = true := by simp [e6]
          have HQ : Hid (okA1 a) := Lib.hid (by unfold okA1; exact ⟨by omega, by omega, by omega, .inl e6⟩)
          clear e6
          go_wp2_with fail
          go_meet
          exact ⟨false, rfl, ⟨fun _ => HQ.out, fun _ => rfl⟩, rfl⟩
        have t6 : (a.form != 3) = true := by simp [e6]
        have t7 : decide (a.form = 3) = false := by simp [e6]
        cases te : a.text.toList.isEmpty
        case true =>
          have HQ : Hid (okA1 a) := Lib.hid (by unfold okA1; exact ⟨by omega, by omega, by omega, .inr ((txt_e _).1 te)⟩)
          clear e6
          go_wp2_with fail
          go_meet
          exact ⟨false, rfl, ⟨fun _ => HQ.out, fun _ => rfl⟩, rfl⟩
        have HQ : Hid ((true : Bool) = false ↔ okA1 a) := Lib.hid ⟨fun h => (by cases h), fun h => (by
          unfold okA1 at h
          have := h.2.2.2.resolve_left e6
          rw [(txt_e _).2 this] at te
          cases te)⟩
        clear e6
        go_wp2_with fail
        go_meet
        exact ⟨true, rfl, HQ.out, rfl⟩
      obtain ⟨d, rfl, hd, hwe⟩ := hcut
      subst hwe
      obtain ⟨w5, rfl⟩ : ∃ W : World, W = wc := ⟨_, rfl⟩
      have HD1 := Lib.hid hd
      clear hd
      cases d with
      | true =>
        have HX : Hid (¬ okAtts l) := Lib.hid (HNO.out (fun h => by
          have := HD1.out.2 ((okAtt_12 a).1 h).1
          cases this))
        clear HSU HNS HP
        go_wp2_with fail
        go_ret
        exact Tells.no HX.out hXg
      | false =>
      go_upto_region 6 with fail
      go_cut [79] (fun s wx => ∃ d : Bool, s = .bool d ∧ (d = false ↔ okA2 a) ∧ wx = w5)
      case first =>
        by_cases e1 : a.form = 1
        case pos =>
          have f1 : decide (a.form = 1) = true := by simp; omega
          have f3 : decide (a.form = 3) = false := by simp; omega
          have f4 : decide (a.form = 4) = false := by simp; omega
          have f1b : (a.form == 1) = true := by simp; omega
          have f3b : (a.form == 3) = false := by simp; omega
          have f4b : (a.form == 4) = false := by simp; omega
          by_cases e2 : a.value < 0
          case pos =>
            have t2 : decide (a.value < 0) = true := by first | (simpa using e2) | (simp; omega)
            have HQ : Hid ((true : Bool) = false ↔ okA2 a) := Lib.hid ⟨fun h => (by cases h), fun h => (by unfold okA2 at h; omega)⟩
            clear e2
            go_wp2_with fail
            go_meet
            exact ⟨true, rfl, HQ.out, rfl⟩
          have t2 : decide (a.value < 0) = false := by first | (simpa using e2) | (simp; omega)
          by_cases e3 : 1099511627776 < a.value
          case pos =>
            have t3 : decide (1099511627776 < a.value) = true := by first | (simpa using e3) | (simp; omega)
            have HQ : Hid ((true : Bool) = false ↔ okA2 a) := Lib.hid ⟨fun h => (by cases h), fun h => (by unfold okA2 at h; omega)⟩
            clear e3
            go_wp2_with fail
            go_meet
            exact ⟨true, rfl, HQ.out, rfl⟩
          have t3 : decide (1099511627776 < a.value) = false := by first | (simpa using e3) | (simp; omega)
          have HQ : Hid (okA2 a) := Lib.hid (by unfold okA2; omega)
          clear e1 e2 e3
          go_wp2_with fail
          go_meet
          exact ⟨false, rfl, ⟨fun _ => HQ.out, fun _ => rfl⟩, rfl⟩
        by_cases e4 : a.form = 4
        case pos =>
          have f1 : decide (a.form = 1) = false := by simp; omega
          have f3 : decide (a.form = 3) = false := by simp; omega
          have f4 : decide (a.form = 4) = true := by simp; omega
          have f1b : (a.form == 1) = false := by simp; omega
          have f3b : (a.form == 3) = false := by simp; omega
          have f4b : (a.form == 4) = true := by simp; omega
          by_cases e2 : a.value = 1
          case pos =>
            have t2 : (a.value != 1) = false := by simp [e2]
            have t3 : decide (a.value = 1) = true := by simp [e2]
            have HQ : Hid (okA2 a) := Lib.hid (by unfold okA2; omega)
            clear e1 e2 e4
            go_wp2_with fail
            go_meet
            exact ⟨false, rfl, ⟨fun _ => HQ.out, fun _ => rfl⟩, rfl⟩
          have t2 : (a.value != 1) = true := by simp [e2]
          have t3 : decide (a.value = 1) = false := by simp [e2]
          have HQ : Hid ((true : Bool) = false ↔ okA2 a) := Lib.hid ⟨fun h => (by cases h), fun h => (by unfold okA2 at h; omega)⟩
          clear e1 e2 e4
          go_wp2_with fail
          go_meet
          exact ⟨true, rfl, HQ.out, rfl⟩
        by_cases e3 : a.form = 3
        case pos =>
          have f1 : decide (a.form = 1) = false := by simp; omega
          have f3 : decide (a.form = 3) = true := by simp; omega
          have f4 : decide (a.form = 4) = false := by simp; omega
          have f1b : (a.form == 1) = false := by simp; omega
          have f3b : (a.form == 3) = true := by simp; omega
          have f4b : (a.form == 4) = false := by simp; omega
          by_cases e2 : a.value = 0
          case pos =>
            have t2 : (a.value != 0) = false := by simp [e2]
            have t3 : decide (a.value = 0) = true := by simp [e2]
            have HQ : Hid (okA2 a) := Lib.hid (by unfold okA2; omega)
            clear e1 e2 e3 e4
            go_wp2_with fail
            go_meet
            exact ⟨false, rfl, ⟨fun _ => HQ.out, fun _ => rfl⟩, rfl⟩
          have t2 : (a.value != 0) = true := by simp [e2]
          have t3 : decide (a.value = 0) = false := by simp [e2]
          have HQ : Hid ((true : Bool) = false ↔ okA2 a) := Lib.hid ⟨fun h => (by cases h), fun h => (by unfold okA2 at h; omega)⟩
          clear e1 e2 e3 e4
          go_wp2_with fail
          go_meet
          exact ⟨true, rfl, HQ.out, rfl⟩
        have f1 : decide (a.form = 1) = false := by simp; omega
        have f3 : decide (a.form = 3) = false := by simp; omega
        have f4 : decide (a.form = 4) = false := by simp; omega
        have f1b : (a.form == 1) = false := by simp; omega
        have f3b : (a.form == 3) = false := by simp; omega
        have f4b : (a.form == 4) = false := by simp; omega
        have HQ : Hid (okA2 a) := Lib.hid (by unfold okA2; omega)
        clear e1 e3 e4
        go_wp2_with fail
        go_meet
        exact ⟨false, rfl, ⟨fun _ => HQ.out, fun _ => rfl⟩, rfl⟩
      obtain ⟨d, rfl, hd, hwe⟩ := hcut
      subst hwe
      obtain ⟨w6, rfl⟩ : ∃ W : World, W = wc := ⟨_, rfl⟩
      have HD2 := Lib.hid hd
      clear hd
      cases d with
      | true =>
        have HX : Hid (¬ okAtts l) := Lib.hid (HNO.out (fun h => by
          have := HD2.out.2 ((okAtt_12 a).1 h).2
          cases this))
        clear HSU HNS HP
        go_wp2_with fail
        go_ret
        exact Tells.no HX.out hXg
      | false =>
      have HOK : Hid (okAtt a) := Lib.hid ((okAtt_12 a).2 ⟨HD1.out.1 rfl, HD2.out.1 rfl⟩)
      clear HD1 HD2 HNO
      have hat : ∀ k, k < j → ∃ z : Att, l[k]? = some z ∧ ∀ W, Ext w6 W → W.cell? ⟨bb, oo + k * 4, none⟩ = some (.int .i64 z.name) := fun k hk => by
        have hkl : k < l.length := by omega
        obtain ⟨b2, o2, he, h2⟩ := (HV.out.ext hXg).at_ (k := 4) (fun z hz => rfl) (by omega) hkl
        injection he with he
        injection he with e1 e2 _
        subst e1 e2
        exact ⟨l[k], List.getElem?_eq_getElem hkl, fun W hW => by simpa using hW.cell (h2 0 _ rfl)⟩
      have HAT := Lib.hid hat
      clear hat r0 r1 r2 r3
      go_wp2_with fail
      go_loopw [5] (fun i wr => ∃ (k : Nat), k ≤ j ∧ i = .int .i64 (k : Int) ∧ Hid (seenA (l.take k) a.name = false) ∧ Ext w6 wr) (fun i _ => j - (intOf i).toNat)
      case atStart => exact ⟨0, by omega, rfl, Lib.hid (by simp [seenA]), Ext.refl _⟩
      case round =>
        obtain ⟨k, hk, rfl, HS, hX6⟩ := hrel
        obtain ⟨wx, rfl⟩ : ∃ wo : World, wo = wr := ⟨_, rfl⟩
        by_cases hkj : k < j
        · have hkk : (k : Int) < (j : Int) := by omega
          obtain ⟨z, hz, hzc⟩ := HAT.out k hkj
          have hzc := hzc wx hX6
          have hkn : (k : Int) < (n : Int) := by omega
          have hG6 := hX6.heap hG
          obtain ⟨q0, q1, q2, q3⟩ := blkR hG6
          have HZE : Hid (z.name = a.name → ¬ okAtts l) := Lib.hid (fun h => HNS.out (by
            have hm : z ∈ l.take j := List.mem_of_getElem? (i := k) (by rw [List.getElem?_take]; simp [hkj, hz])
            unfold seenA
            simp only [decide_eq_true_eq]
            rw [← h]
            exact List.mem_map_of_mem hm))
          have HZN : Hid (z.name ≠ a.name → seenA (l.take (k + 1)) a.name = false) := Lib.hid (fun h => by
            have hkl : k < l.length := by omega
            rw [List.getElem?_eq_getElem hkl] at hz
            injection hz with hz
            rw [seenA_succ hkl, hz, HS.out]
            simp [Ne.symm h])
          clear hz
          by_cases hza : z.name = a.name
          · have t1 : (z.name == a.name) = true := by simp [hza]
            have t2 : decide (z.name = a.name) = true := by simp [hza]
            have HX := Lib.hid (HZE.out hza)
            clear HZE HZN hza HSU HNS
            go_wp2_with fail
            go_quiet (fail)
            go_wp2_with fail
            go_ret
            exact Tells.no HX.out (hXg.trans (hX6.trans ((Ext.refl _).drewN _)))
          · have t1 : (z.name == a.name) = false := by simp [hza]
            have t2 : decide (z.name = a.name) = false := by simp [hza]
            have HS2 := Lib.hid (HZN.out hza)
            clear HZE HZN hza HSU HNS
            go_wp2_with fail
            go_quiet (fail)
            go_wp2_with fail
            go_roundw
            case rel => exact ⟨k + 1, by omega, by first | (with_reducible rfl) | go_num, HS2, hX6.trans ((Ext.refl _).drewN _)⟩
            case measure => simp [intOf]; omega
        · have hkk : ¬ (k : Int) < (j : Int) := by omega
          have hkj' : k = j := by omega
          have HPN : Hid (PreA l (j + 1)) := Lib.hid (HSU.out HOK.out (by have := HS.out; rwa [hkj'] at this))
          have hXX := hXg.trans hX6
          clear hkj' HSU HNS HS HP hX6 hXg hG
          go_wp2_with fail
          go_roundw
          case rel => exact ⟨j + 1, by omega, by first | (with_reducible rfl) | go_num, HPN, hXX⟩
          case measure => simp [intOf]; omega
    · have hij : ¬ (j : Int) < (n : Int) := by omega
      have HT : Hid (n ≤ 12 → okAtts l) := Lib.hid (fun hle => by
        have e : l.take j = l := List.take_of_length_le (by have := HN.out; omega)
        have h := HP.out
        unfold PreA at h
        rw [e] at h
        exact ⟨by have := HN.out; omega, h.1, h.2⟩)
      by_cases h12 : n ≤ 12
      · have d0 : decide ((n : Int) ≤ 12) = true := by simp; omega
        have HT2 := Lib.hid (HT.out h12)
        clear h12
        go_wp2_with fail
        go_ret
        exact Tells.yes HT2.out hX
      · have d0 : decide ((n : Int) ≤ 12) = false := by simp; omega
        have HX : Hid (¬ okAtts l) := Lib.hid (fun h => by have := h.1; have := HN.out; omega)
        clear h12
        go_wp2_with fail
        go_ret
        exact Tells.no HX.out hX
end Go.Proofs.Ytopanbcodfkedaa
