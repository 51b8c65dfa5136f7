/- Contracts of the writing functions of the reference of layer 1, and of the comparison of two lists of bytes. -/
import Derived.Test.YtopanbcodfkedaaWireA
namespace Go.Proofs.Ytopanbcodfkedaa
open Go.RowKit

theorem own_empty (w : World) (z : Array Value) (hz : z.size = 0) : OwnB w.heap.size (w.alloc (.cells z 5)) (.slice (some ⟨w.heap.size, 0, none⟩) 0 0) [] :=
  World.ownsRow_made w z 0 (Nat.le_refl _) (by simp only [maxLen]; omega) (by simp [hz])

set_option maxRecDepth 100000 in
theorem group_any (x : Value) (l : List UInt8) (u : Int) (w : World) (hx : InB w x l) (hl : l.length ≤ 4294967296) (hu0 : 0 ≤ u) (hu : u < 18446744073709551616) :
    Calls Try.prog 43 #[x, .int .u64 u] w fun e w' => ∃ v', e = .returned v' ∧ OwnB w.heap.size w' v' (l ++ leb u.toNat) ∧ Ext w w' := by
  obtain ⟨A, c, rfl, _, hr⟩ := hx
  obtain ⟨u, rfl⟩ := Int.eq_ofNat_of_zero_le hu0
  rw [Int.toNat_natCast]
  have hlen := leb_len10 (u := u) (by omega)
  have Hu : Lt64 u := ⟨by omega⟩
  clear hu hu0
  go_enter Try.func43, Try.ntmps43
  go_wp2_with (at_builtin; go_must (refine wpList_appendB rfl (.tmp 6) (.tmp 7) rfl w.heap.size (.slice (some ⟨w.heap.size, 0, none⟩) 0 0) [] rfl (own_empty w _ rfl) A l.length c l rfl rfl (hr.ext ((Ext.refl w).alloc _)) (by simp; omega) (by simp) ?_); intro v0 w0 ho hg0 hat0)
  have he0 : Ext w w0 := (Ext.refl w).alloc _ |>.grown hg0 (by simp [Value.ownBlock])
  have hs0 := he0.size
  rw [List.nil_append] at ho
  clear hg0 hat0
  go_wp2_with fail
  go_loopw [5, 1] (fun x y wr => ∃ (k : Nat) (pre : List UInt8), y = .int .u64 (k : Int) ∧ k ≤ u ∧ leb u = pre ++ leb k ∧ OwnB w.heap.size wr x (l ++ pre) ∧ Ext w wr) (fun _ y _ => (intOf y).toNat)
  case atStart => exact ⟨u, [], rfl, Nat.le_refl _, rfl, by simpa using ho, he0⟩
  case round =>
    obtain ⟨k, pre, rfl, hk, hpre, hox, hg⟩ := hrel
    have hsz := hg.size
    have hpl : pre.length ≤ 10 := by have := congrArg List.length hpre; simp at this; omega
    have Hpre := Lib.hid hpre
    clear hpre
    by_cases hlt : k < 128
    · go_wp2_with (at_builtin; go_must (refine wpList_append1B rfl (.tmp 20) (.tmp 23) rfl w.heap.size _ _ rfl wr hox _ (UInt8.ofNat k) ?hy rfl rfl (by simp; omega) (by omega) ?_); rotate_left; intro v1 w1 ho1 hg1)
      go_ret
      · exact ⟨v1, rfl, by rw [Hpre.out, leb_small hlt, ← List.append_assoc]; exact ho1, hg1.ext hg hox.ge⟩
      · simp [bv]; omega
    · have ew : IntKind.u64.wrap ((k : Int) / 128) = (k : Int) / 128 := by rw [wrap_u64]; have := Hu.out; omega
      go_wp2_with (at_builtin; go_must (refine wpList_append1B rfl (.tmp 11) (.tmp 16) rfl w.heap.size _ _ rfl wr hox _ (UInt8.ofNat (k % 128 + 128)) ?hz rfl rfl (by simp; omega) (by omega) ?_); rotate_left; intro v1 w1 ho1 hg1)
      go_roundw
      case rel => exact ⟨k / 128, pre ++ [UInt8.ofNat (k % 128 + 128)], by go_num, by omega, by rw [Hpre.out, leb_big hlt]; simp, by rw [← List.append_assoc]; exact ho1, hg1.ext hg hox.ge⟩
      case measure => simp [intOf]; omega
      · simp only [bv]; congr 1; simp; omega

theorem refAppendUint_any (x : Value) (l : List UInt8) (v : Int) (w : World) (hx : InB w x l) (hl : l.length ≤ 1073741824) (hv : v ≤ 9223372036854775807) :
    Calls Try.prog 28 #[x, .int .i64 v] w fun e w' => ∃ y, e = .returned y ∧ OwnB w.heap.size w' y (l ++ uintB v) ∧ Ext w w' := by
  by_cases h0 : v < 0
  · obtain ⟨A, c, rfl, _, hr⟩ := hx
    go_enter Try.func28, Try.ntmps28
    go_wp2_with (at_builtin; go_must (refine wpList_appendB rfl (.tmp 7) (.tmp 8) rfl w.heap.size (.slice (some ⟨w.heap.size, 0, none⟩) 0 0) [] rfl (own_empty w _ rfl) A l.length c l rfl rfl (hr.ext ((Ext.refl w).alloc _)) (by simp; omega) (by simp) ?_); intro v0 w0 ho hg0 hat0)
    go_ret
    exact ⟨v0, rfl, by unfold uintB; rw [if_pos h0, List.append_nil]; exact ho, (Ext.refl w).alloc _ |>.grown hg0 (by simp [Value.ownBlock])⟩
  · go_enter Try.func28, Try.ntmps28
    go_wp2_with fail
    refine (group_any x l v w hx (by omega) (by omega) (by omega)).mono ?_
    rintro e w1 ⟨y1, rfl, ho1, he1⟩
    go_wp2_with fail
    go_ret
    exact ⟨y1, rfl, by unfold uintB; rw [if_neg (by omega)]; exact ho1, he1⟩

theorem zig_neg2 {v : Int} (h0 : v < 0) (h1 : -9223372036854775808 ≤ v) : bits .xor .u64 IntKind.u64.max (IntKind.u64.wrap (IntKind.u64.wrap v * 2)) = ((zig v : Nat) : Int) := by
  rw [wrap_u64, wrap_u64, show v % 18446744073709551616 = v + 18446744073709551616 by omega, show (v + 18446744073709551616) * 2 % 18446744073709551616 = 2 * v + 18446744073709551616 by omega, u64_notI _ (by omega) (by omega)]
  unfold zig
  rw [if_pos h0]; omega

set_option maxRecDepth 100000 in
theorem refAppendInt_any (x : Value) (l : List UInt8) (v : Int) (w : World) (hx : InB w x l) (hl : l.length ≤ 1073741824) (hv1 : -9223372036854775808 ≤ v) (hv : v ≤ 9223372036854775807) :
    Calls Try.prog 44 #[x, .int .i64 v] w fun e w' => ∃ y, e = .returned y ∧ OwnB w.heap.size w' y (l ++ leb (zig v)) ∧ Ext w w' := by
  have hz := zig_lt hv1 hv
  by_cases h0 : v < 0
  · have e1 := zig_neg2 h0 hv1
    clear hv hv1
    go_enter Try.func44, Try.ntmps44
    go_wp2_with fail
    refine (group_any x l _ w hx (by omega) (by omega) (by omega)).mono ?_
    rintro e w1 ⟨y1, rfl, ho1, he1⟩
    go_wp2_with fail
    go_ret
    exact ⟨y1, rfl, by simpa using ho1, he1⟩
  · have e1 := zig_pos h0
    go_enter Try.func44, Try.ntmps44
    go_wp2_with fail
    refine (group_any x l _ w hx (by omega) (by omega) (by omega)).mono ?_
    rintro e w1 ⟨y1, rfl, ho1, he1⟩
    go_wp2_with fail
    go_ret
    exact ⟨y1, rfl, by simpa using ho1, he1⟩

theorem refAppendText_any (x : Value) (l : List UInt8) (t : ByteArray) (w : World) (hx : InB w x l) (hl : l.length ≤ 1073741824) (ht : t.size ≤ 1073741824) :
    Calls Try.prog 45 #[x, .string t] w fun e w' => ∃ y, e = .returned y ∧ OwnB w.heap.size w' y (l ++ (leb t.size ++ t.data.toList)) ∧ Ext w w' := by
  have hlen := leb_len10 (u := t.size) (by omega)
  go_enter Try.func45, Try.ntmps45
  go_wp2_with fail
  refine (refAppendUint_any x l _ w hx hl (by omega)).mono ?_
  rintro e w1 ⟨y1, rfl, ho1, he1⟩
  have hub : uintB (t.size : Int) = leb t.size := by unfold uintB; rw [if_neg (by omega), Int.toNat_natCast]
  rw [hub] at ho1
  clear hub
  go_wp2_with (at_builtin; go_must (refine wpList_appendS rfl (.tmp 8) (.tmp 9) rfl w.heap.size y1 _ rfl ho1 t rfl (by simp; omega) he1.size ?_); intro v w3 ho3 hg3)
  go_ret
  exact ⟨v, rfl, by rw [← List.append_assoc]; exact ho3, hg3.ext he1 ho1.ge⟩

theorem take_step {α : Type} {l m : List α} {k : Nat} (h : l.take k = m.take k) (h1 : k < l.length) (h2 : k < m.length) (h3 : l[k] = m[k]) : l.take (k + 1) = m.take (k + 1) := by
  rw [List.take_succ_eq_append_getElem h1, List.take_succ_eq_append_getElem h2, h, h3]

set_option maxRecDepth 100000 in
theorem sameList_any (x y : Value) (l m : List UInt8) (w : World) (hx : InB w x l) (hy : InB w y m) (hl : l.length ≤ 4294967296) (hm : m.length ≤ 4294967296) :
    Calls Try.prog 13 #[x, y] w fun e w' => e = .returned (.bool (decide (l = m))) ∧ ∃ n, w' = w.drewN n := by
  obtain ⟨A, c, rfl, _, hr⟩ := hx
  obtain ⟨B, d, rfl, _, hs⟩ := hy
  by_cases hne : l.length = m.length
  · have hb : ((l.length : Int) != (m.length : Int)) = false := by simp [hne]
    have Hn := Lib.hid hne
    clear hne
    go_enter Try.func13, Try.ntmps13
    go_wp2_with fail
    clear hb
    go_loopw [5] (fun i wr => ∃ k n : Nat, k ≤ l.length ∧ i = .int .i64 (k : Int) ∧ l.take k = m.take k ∧ wr = w.drewN n) (fun i _ => l.length - (intOf i).toNat)
    case atStart => exact ⟨0, 0, Nat.zero_le _, rfl, rfl, rfl⟩
    case round =>
      obtain ⟨k, n, hk, rfl, htk, rfl⟩ := hrel
      have Htk := Lib.hid htk
      clear htk
      by_cases hlt : k < l.length
      · have hlt2 : k < m.length := by have := Hn.out; omega
        obtain ⟨b1, o1, rfl, hc1⟩ := hr.byte hlt
        obtain ⟨b2, o2, rfl, hc2⟩ := hs.byte hlt2
        have hi1 : (k : Int) < (l.length : Int) := by omega
        have hi2 : (k : Int) < (m.length : Int) := by omega
        have HE : Hid ((((l[k].toNat : Nat) : Int) != ((m[k].toNat : Nat) : Int)) = false → l[k] = m[k]) := fun h => by
          simp at h; exact UInt8.toNat_inj.1 (by omega)
        have HF : Hid ((((l[k].toNat : Nat) : Int) != ((m[k].toNat : Nat) : Int)) = true → l ≠ m) := fun h e => by
          subst e; simp at h
        generalize hv1 : ((l[k].toNat : Nat) : Int) = v1 at *
        generalize hv2 : ((m[k].toNat : Nat) : Int) = v2 at *
        clear hv1 hv2
        go_wp2_with fail
        go_quiet (fail)
        by_cases hv : (v1 != v2) = true
        · go_wp2_with fail
          go_ret
          exact ⟨by rw [decide_eq_false (HF.out hv)]; rfl, _, World.drewN_drewN _ _ _⟩
        · have hv' : (v1 != v2) = false := by simpa using hv
          clear hv
          go_wp2_with fail
          go_roundw
          case rel => exact ⟨k + 1, _, by omega, by go_num, take_step Htk.out hlt hlt2 (HE.out hv'), rfl⟩
          case measure => simp [intOf]; omega
      · go_wp2_with fail
        go_ret
        have e : l = m := by
          have h1 := Htk.out
          rw [List.take_of_length_le (by omega), List.take_of_length_le (by have := Hn.out; omega)] at h1
          exact h1
        exact ⟨by rw [decide_eq_true e]; rfl, n, rfl⟩
  · have hb : ((l.length : Int) != (m.length : Int)) = true := by simp; omega
    have HE : Hid (l ≠ m) := fun e => hne (by rw [e])
    clear hne
    go_enter Try.func13, Try.ntmps13
    go_wp2_with fail
    go_ret
    exact ⟨by rw [decide_eq_false HE.out]; rfl, 0, rfl⟩
end Go.Proofs.Ytopanbcodfkedaa
