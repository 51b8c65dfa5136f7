/- The contract of the reference's Encode; slices.Equal and slices.Clone of bytes. -/
import Derived.Test.YtnobepobalpccaaPacketD
namespace Go.Proofs.Ytnobepobalpccaa
open Go.RowKit
set_option linter.unusedVariables false

theorem loB_val2 {n : Nat} (h : n < 65536) : IntKind.u8.wrap ((n : Int) % 256) = ((loB n).toNat : Int) := by
  unfold loB
  rw [ofNat_small (by omega)]
  simp [IntKind.wrap, IntKind.bits, IntKind.signed]
set_option maxRecDepth 100000 in
theorem equalB_any (x y : Value) (l m : List UInt8) (w : World) (hx : InB w x l) (hy : InB w y m) (hl : l.length ≤ 4294967296) (hm : m.length ≤ 4294967296) :
    Calls Try.prog 28 #[x, y] w fun e w' => e = .returned (.bool (decide (l = m))) ∧ ∃ n, w' = w.drewN n := by
  obtain ⟨A, c, rfl, _, hr⟩ := hx
  obtain ⟨B, d, rfl, _, hs⟩ := hy
  by_cases hne : l.length = m.length
  · have hb : ((l.length : Int) != (m.length : Int)) = false := by simp [hne]
    have Hn := Lib.hid hne
    clear hne
    go_enter Try.func28, Try.ntmps28
    go_wp2_with fail
    clear hb
    go_loopw [13] (fun i wr => ∃ k n : Nat, k ≤ l.length ∧ i = .int .i64 (k : Int) ∧ l.take k = m.take k ∧ wr = w.drewN n) (fun i _ => l.length - (intOf i).toNat)
    case atStart => exact ⟨0, 0, Nat.zero_le _, rfl, rfl, rfl⟩
    case round =>
      obtain ⟨k, n, hk, rfl, htk, rfl⟩ := hrel
      have Htk := Lib.hid htk
      clear htk
      by_cases hlt : k < l.length
      · have hlt2 : k < m.length := by have := Hn.out; omega
        obtain ⟨b1, o1, rfl, hc1⟩ := hr.byte hlt
        obtain ⟨b2, o2, rfl, hc2⟩ := hs.byte hlt2
        have hi1 : (k : Int) < (l.length : Int) := by omega
        have hi2 : (k : Int) < (m.length : Int) := by omega
        have HE : Hid (l[k] = m[k] → l[k] = m[k]) := Lib.hid id
        have HF : Hid (l[k] ≠ m[k] → l ≠ m) := Lib.hid fun h e => by subst e; exact h rfl
        obtain ⟨v1, hv1⟩ : ∃ v1, v1 = l[k] := ⟨_, rfl⟩
        obtain ⟨v2, hv2⟩ : ∃ v2, v2 = m[k] := ⟨_, rfl⟩
        rw [← hv1] at hc1
        rw [← hv2] at hc2
        have HE' : Hid (v1 = v2 → l[k] = m[k]) := by rw [hv1, hv2]; exact HE
        have HF' : Hid (v1 ≠ v2 → l ≠ m) := by rw [hv1, hv2]; exact HF
        clear HE HF hv1 hv2
        by_cases hv : v1 = v2
        · subst hv
          have HE := Lib.hid (HE'.out rfl)
          clear HE' HF'
          have hb : ((v1.toNat : Int) != (v1.toNat : Int)) = false := by simp
          go_wp2_with fail
          go_quiet (fail)
          go_wp2_with fail
          go_roundw
          case rel => exact ⟨k + 1, _, by omega, by go_num, take_step Htk.out hlt hlt2 HE.out, rfl⟩
          case measure => simp [intOf]; omega
        · have HF := Lib.hid (HF'.out hv)
          have hb : ((v1.toNat : Int) != (v2.toNat : Int)) = true := by
            simp only [bne_iff_ne, ne_eq, Int.natCast_inj]
            exact fun e => hv (UInt8.toNat_inj.1 e)
          clear HE' HF' hv
          go_wp2_with fail
          go_quiet (fail)
          go_wp2_with fail
          go_ret
          exact ⟨by rw [decide_eq_false HF.out]; rfl, _, World.drewN_drewN _ _ _⟩
      · go_wp2_with fail
        go_ret
        have e : l = m := by
          have h1 := Htk.out
          rw [List.take_of_length_le (by omega), List.take_of_length_le (by have := Hn.out; omega)] at h1
          exact h1
        exact ⟨by rw [decide_eq_true e]; rfl, n, rfl⟩
  · have hb : ((l.length : Int) != (m.length : Int)) = true := by simp; omega
    have HE : Hid (l ≠ m) := Lib.hid fun e => hne (by rw [e])
    clear hne
    go_enter Try.func28, Try.ntmps28
    go_wp2_with fail
    go_ret
    exact ⟨by rw [decide_eq_false HE.out]; rfl, 0, rfl⟩


set_option maxRecDepth 100000 in
theorem cloneB_any (x : Value) (l : List UInt8) (w : World) (hx : InB w x l) (hl : l.length ≤ 1073741824) :
    Calls Try.prog 32 #[x] w fun e w' => ∃ y, e = .returned y ∧ OwnV bv 5 w.heap.size w' y l ∧ Ext w w' := by
  have hX := hx
  obtain ⟨A, c, rfl, _, hr⟩ := hx
  have kn := fun (w : World) (a : Option Addr) (l c : Nat) => Lib.run_eql_slice_nil (P := Try.prog) w 32 5 a l c 0 0 Try.underlying32
  rcases A with _ | ad
  · have : l = [] := by
      cases l with
      | nil => rfl
      | cons a l => obtain ⟨ad, h, _⟩ := hr.at_ (k := 0) (by simp); cases h
    subst this
    go_enter Try.func32, Try.ntmps32
    go_wp2
    go_ret
    exact ⟨_, rfl, OwnV.nil _, Ext.refl w⟩
  · go_enter Try.func32, Try.ntmps32
    go_wp2_with (at_builtin; go_must (refine wpList_appendV elem_u8 (fun _ => rfl) rfl (.tmp 5) (.tmp 6) rfl w.heap.size _ [] rfl (own_empty w _ rfl).toV _ l rfl (hX.ext ((Ext.refl w).alloc _)) (by simp; omega) (by omega) (by simp) (Hold.out ?_)))
    refine Hold.mk fun v1 w1 ho1 hg1 => ?_
    have hE1 := hg1.ext ((Ext.refl w).alloc _) (fun k hk => by simp only [Value.ownBlock, Option.some.injEq] at hk; omega)
    clear hg1
    go_wp2
    go_ret
    exact ⟨_, rfl, ho1, hE1⟩
end Go.Proofs.Ytnobepobalpccaa
