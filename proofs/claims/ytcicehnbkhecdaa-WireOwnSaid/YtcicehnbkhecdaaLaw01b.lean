/- The walks of further statements about layer 1. -/
import Derived.Test.YtcicehnbkhecdaaLaw01
namespace Go.Proofs.Ytcicehnbkhecdaa
open Go.RowKit

/-- a slice of the call's own under a name of its own -/
theorem OwnB.named {base : Nat} {w : World} {v : Value} {l : List UInt8} (h : OwnB base w v l) : ∃ xs A c, Hid (xs = l) ∧ v = .slice A xs.length c ∧ InB w (.slice A xs.length c) xs := by
  obtain ⟨A, c, rfl, h'⟩ := h.open_
  exact ⟨l, A, c, Lib.hid rfl, rfl, h'⟩

theorem bytes_eta (t : ByteArray) : (⟨t.data.toList.toArray⟩ : ByteArray) = t := by
  cases t; simp

set_option maxHeartbeats 1000000 in
set_option maxRecDepth 100000 in
theorem law_back (x z : Value) (l m : List UInt8) (v : Int) (t : ByteArray) (w : World) (hx : InB w x l) (hz : InB w z m) (hv1 : -9223372036854775808 ≤ v) (hv : v ≤ 9223372036854775807) :
    Calls Try.prog 9 #[x, .int .i64 v, .string t, z] w fun e w' => e = .returned (.bool true) ∧ Ext w w' := by
  have hx' := hx
  obtain ⟨A, c, rfl, _, _⟩ := hx'
  have hz' := hz
  obtain ⟨B, d, rfl, _, hrz⟩ := hz'
  by_cases hbig : 300 < l.length ∨ 500 < t.size ∨ 300 < m.length
  · clear hv hv1
    by_cases h1 : 300 < l.length
    · have h1' : (300 : Int) < (l.length : Int) := by omega
      go_enter Try.func9, Try.ntmps9
      go_wp2_with fail
      refine (known_any w).mono ?_
      rintro e w1 ⟨rfl, he1⟩
      go_wp2_with fail
      go_ret
      exact ⟨rfl, he1⟩
    · have h1' : ¬ (300 : Int) < (l.length : Int) := by omega
      by_cases h2 : 500 < t.size
      · have h2' : (500 : Int) < (t.size : Int) := by omega
        go_enter Try.func9, Try.ntmps9
        go_wp2_with fail
        refine (known_any w).mono ?_
        rintro e w1 ⟨rfl, he1⟩
        go_wp2_with fail
        go_ret
        exact ⟨rfl, he1⟩
      · have h2' : ¬ (500 : Int) < (t.size : Int) := by omega
        have h3' : (300 : Int) < (m.length : Int) := by omega
        go_enter Try.func9, Try.ntmps9
        go_wp2_with fail
        refine (known_any w).mono ?_
        rintro e w1 ⟨rfl, he1⟩
        go_wp2_with fail
        go_ret
        exact ⟨rfl, he1⟩
  · obtain ⟨U, hU, eU⟩ := and_i64_mask v 9223372036854775807 (by omega)
    have eU' : bits .and .i64 v 9223372036854775807 = (U : Int) := eU
    clear eU
    have h1' : ¬ (300 : Int) < (l.length : Int) := by omega
    have h2' : ¬ (500 : Int) < (t.size : Int) := by omega
    have h3' : ¬ (300 : Int) < (m.length : Int) := by omega
    have hl : l.length ≤ 300 := by omega
    have ht : t.size ≤ 500 := by omega
    have hm : m.length ≤ 300 := by omega
    clear hbig
    have hL1 := leb_len10 (u := U) (by omega)
    have hL2 := leb_len10 (zig_lt hv1 hv)
    have hL3 := leb_len10 (u := t.size) (by omega)
    have hu : uintB (U : Int) = leb U := by unfold uintB; rw [if_neg (by omega), Int.toNat_natCast]
    have HU := Lib.hid hu
    have R1 := Lib.hid (uintR_leb (v := U) (by omega) l m)
    have R2 := Lib.hid (intR_leb hv1 hv l m)
    have R3 := Lib.hid (textR_leb l t.data.toList m (by rw [Array.length_toList]; show t.size < _; omega))
    clear hu
    go_enter Try.func9, Try.ntmps9
    go_wp2_with fail
    clear eU'
    refine (AppendUint_any _ l _ w hx (by omega) (by omega)).mono ?_
    rintro e w1 ⟨y1, rfl, ho1, he1⟩
    rw [HU.out] at ho1
    go_wp2_with (at_builtin; go_must (refine wpList_appendB rfl (.tmp 40) (.tmp 41) rfl w.heap.size y1 _ rfl ho1 B m.length d m rfl rfl (hrz.ext he1) (by simp; omega) he1.size ?_); intro v2 w2 ho2 hg2 hat2)
    have he2 : Ext w w2 := he1.grown hg2 ho1.ge
    obtain ⟨x2, A2, c2, E2, rfl, hin2⟩ := ho2.named
    clear hg2 hat2 ho1 ho2
    go_wp2_with fail
    refine (AppendInt_any _ l _ w2 (hx.ext he2) (by omega) hv1 hv).mono ?_
    rintro e w3 ⟨y3, rfl, ho3, he3⟩
    have he3' := he2.trans he3
    go_wp2_with (at_builtin; go_must (refine wpList_appendB rfl (.tmp 45) (.tmp 46) rfl w2.heap.size y3 _ rfl ho3 B m.length d m rfl rfl (hrz.ext he3') (by simp; omega) he3.size ?_); intro v4 w4 ho4 hg4 hat4)
    have he4 : Ext w2 w4 := he3.grown hg4 ho3.ge
    obtain ⟨x4, A4, c4, E4, rfl, hin4⟩ := ho4.named
    clear hg4 hat4 ho3 ho4 he3'
    go_wp2_with fail
    refine (AppendText_any _ l t w4 (hx.ext (he2.trans he4)) (by omega) (by omega)).mono ?_
    rintro e w5 ⟨y5, rfl, ho5, he5⟩
    have he5' := (he2.trans he4).trans he5
    go_wp2_with (at_builtin; go_must (refine wpList_appendB rfl (.tmp 50) (.tmp 51) rfl w4.heap.size y5 _ rfl ho5 B m.length d m rfl rfl (hrz.ext he5') (by simp; omega) he5.size ?_); intro v6 w6 ho6 hg6 hat6)
    have he6 : Ext w4 w6 := he5.grown hg6 ho5.ge
    obtain ⟨x6, A6, c6, E6, rfl, hin6⟩ := ho6.named
    clear hg6 hat6 ho5 ho6 he5'
    have g2 := hin2.ext (he4.trans he6)
    have g4 := hin4.ext he6
    clear hin2 hin4
    have hn2 : (x2.length : Int) = l.length + (leb U).length + m.length := by rw [E2.out]; simp; omega
    have hn4 : (x4.length : Int) = l.length + (leb (zig v)).length + m.length := by rw [E4.out]; simp; omega
    have hn6 : (x6.length : Int) = l.length + ((leb t.size).length + t.size : Nat) + m.length := by
      rw [E6.out]; simp; omega
    have hx2 : x2.length ≤ 2000 := by omega
    have hx4 : x4.length ≤ 2000 := by omega
    have hx6 : x6.length ≤ 2000 := by omega
    have Hn2 := Lib.hid hn2
    have Hn4 := Lib.hid hn4
    have Hn6 := Lib.hid hn6
    clear hn2 hn4 hn6
    go_wp2_with fail
    refine (Uint_any _ x2 _ w6 g2 (by have := Hn2.out; omega)).mono ?_
    rintro e w7 ⟨rfl, he7⟩
    rw [show uintR x2 (l.length : Int) = ((U : Int), (l.length : Int) + (leb U).length, 0) by rw [E2.out, List.append_assoc]; exact R1.out]; simp only
    go_wp2_with fail
    refine (Int_any _ x4 _ w7 (g4.ext he7) (by have := Hn4.out; omega)).mono ?_
    rintro e w8 ⟨rfl, he8⟩
    rw [show intR x4 (l.length : Int) = (v, (l.length : Int) + (leb (zig v)).length, 0) by rw [E4.out, List.append_assoc]; exact R2.out]; simp only
    go_wp2_with fail
    refine (Text_any _ x6 _ w8 (hin6.ext (he7.trans he8)) (by have := Hn6.out; omega)).mono ?_
    rintro e w9 ⟨rfl, he9⟩
    have R3' := R3.out
    rw [Array.length_toList] at R3'
    have R4 : textR x6 (l.length : Int) = (t.data.toList, (l.length : Int) + ((leb t.size).length + t.size : Nat), 0) := by
      rw [E6.out, List.append_assoc]; exact R3'
    rw [R4, bytes_eta]; simp only
    clear R3' R4
    generalize (leb U).length = n1 at *
    generalize (leb (zig v)).length = n2 at *
    generalize (leb t.size).length = n3 at *
    have hn2 := Hn2.out
    have hn4 := Hn4.out
    have hn6 := Hn6.out
    have b1 : ((l.length : Int) + (n1 : Int) == (x2.length : Int) - (m.length : Int)) = true := by simp; omega
    have b2 : ((l.length : Int) + (n2 : Int) == (x4.length : Int) - (m.length : Int)) = true := by simp; omega
    have b3 : ((l.length : Int) + ((n3 : Int) + (t.size : Int)) == (x6.length : Int) - (m.length : Int)) = true := by simp; omega
    clear hn2 hn4 hn6
    go_wp2_with fail
    refine (known_any w9).mono ?_
    rintro e w10 ⟨rfl, he10⟩
    go_wp2_with fail
    go_ret
    exact ⟨rfl, ((((he2.trans (he4.trans he6)).trans he7).trans he8).trans he9).trans he10⟩

theorem cut_int (v : Int) (hv1 : -9223372036854775808 ≤ v) (hv : v ≤ 9223372036854775807) (k : Nat) (hk : k < (leb (zig v)).length) (x : List UInt8) (hx : x = leb (zig v)) : ∃ a b, intR (x.take k) 0 = (a, b, 3) := by
  subst hx
  have h := leb_len10 (zig_lt hv1 hv)
  have e := rdAt_of (last := 9) (most := 1) (p := 0) (l := (leb (zig v)).take k) (Nat.zero_le _) (rd_cut 9 1 (zig v) k 0 0 hk (by omega))
  unfold intR
  exact ⟨_, _, by rw [show (0 : Int) = ((0 : Nat) : Int) from rfl, e]; rfl⟩
theorem cut_text (t : ByteArray) (ht : t.size < 9223372036854775808) (k : Nat) (hk : k < (leb t.size ++ t.data.toList).length) (x : List UInt8) (hx : x = leb t.size ++ t.data.toList) : textR (x.take k) 0 = ([], 0, 3) := by
  subst hx
  have ht2 : t.data.toList.length = t.size := by rw [Array.length_toList]; rfl
  have hlen : (leb t.size).length ≤ 9 := leb_len 8 t.size (by omega)
  by_cases h : k < (leb t.size).length
  · have e := rdAt_of (last := 8) (most := 127) (p := 0) (l := (leb t.size ++ t.data.toList).take k) (u := 0) (n := 0) (er := 3) (Nat.zero_le _) (by
      rw [List.drop_zero, List.take_append_of_le_length (by omega)]; exact rd_cut 8 127 t.size k 0 0 h (by omega))
    have e2 : uintR ((leb t.size ++ t.data.toList).take k) 0 = (0, 0, 3) := by unfold uintR; rw [show (0 : Int) = ((0 : Nat) : Int) from rfl, e]; rfl
    unfold textR
    rw [e2]; rfl
  · obtain ⟨j, rfl⟩ : ∃ j, k = (leb t.size).length + j := ⟨k - (leb t.size).length, by omega⟩
    rw [List.length_append] at hk
    rw [List.take_append, List.take_of_length_le (by omega), Nat.add_sub_cancel_left]
    have e := uintR_leb ht [] (t.data.toList.take j)
    simp only [List.nil_append, List.length_nil] at e
    have e2 : uintR (leb t.size ++ t.data.toList.take j) 0 = ((t.size : Int), ((leb t.size).length : Int), 0) := by
      rw [show (0 : Int) = ((0 : Nat) : Int) from rfl, e]; simp
    unfold textR
    rw [e2]
    simp only [List.length_append, List.length_take]
    rw [if_neg (by simp), if_pos (by omega)]

set_option maxHeartbeats 1000000 in
set_option maxRecDepth 100000 in
theorem law_cut (v : Int) (s : ByteArray) (w : World) (hv1 : -9223372036854775808 ≤ v) (hv : v ≤ 9223372036854775807) :
    Calls Try.prog 10 #[.int .i64 v, .string s] w fun e w' => e = .returned (.bool true) ∧ Ext w w' := by
  by_cases h : 200 < s.size
  · have h' : (200 : Int) < (s.size : Int) := by omega
    go_enter Try.func10, Try.ntmps10
    go_wp2_with fail
    obtain ⟨t, ht, Et⟩ : ∃ t, t.size = 200 ∧ t = s.extract 0 200 := ⟨_, by simp; omega, rfl⟩
    rw [← Et]
    have Ht := Lib.hid ht
    have ht : t.size ≤ 200 := by omega
    clear Et h h'
    refine (AppendInt_any _ [] v w (InV.nil w) (by simp) hv1 hv).mono ?_
    rintro e w1 ⟨y1, rfl, ho1, he1⟩
    rw [List.nil_append] at ho1
    obtain ⟨x1, A1, c1, E1, rfl, hin1⟩ := ho1.named
    clear ho1
    go_wp2_with fail
    refine (AppendText_any _ [] t w1 (InV.nil w1) (by simp) (by omega)).mono ?_
    rintro e w2 ⟨y2, rfl, ho2, he2⟩
    rw [List.nil_append] at ho2
    obtain ⟨x2, A2, c2, E2, rfl, hin2⟩ := ho2.named
    clear ho2
    have he := he1.trans he2
    have hin1 := hin1.ext he2
    have hx1 : 0 < x1.length ∧ x1.length ≤ 10 := by rw [E1.out]; exact ⟨leb_pos _, leb_len10 (zig_lt hv1 hv)⟩
    have hx2 : 0 < x2.length ∧ x2.length ≤ 1000 := by
      have h1 := leb_pos t.size
      have h2 := leb_len10 (u := t.size) (by omega)
      have h3 : t.data.toList.length = t.size := by rw [Array.length_toList]; rfl
      rw [E2.out, List.length_append]
      omega
    go_wp2_with fail
    clear he1 he2
    go_loopw [7] (fun i wr => ∃ k : Nat, k ≤ x1.length ∧ i = .int .i64 (k : Int) ∧ Ext w2 wr) (fun i _ => x1.length - (intOf i).toNat)
    case atStart => exact ⟨0, by omega, rfl, Ext.refl _⟩
    case round =>
      obtain ⟨k, hk, rfl, hex⟩ := hrel
      by_cases hlt : k < x1.length
      · obtain ⟨A', c', hs, hin'⟩ := preB (hin1.ext hex) k (by omega)
        have hl' : (x1.take k).length ≤ 10 := by simp; omega
        have hR : ∃ a b, intR (x1.take k) 0 = (a, b, 3) := cut_int v hv1 hv k (by rw [E1.out] at hlt; exact hlt) x1 E1.out
        obtain ⟨ra, rb, hR⟩ := hR
        have HR := Lib.hid hR
        clear hR
        go_wp2_with fail
        refine (Int_any _ _ 0 wr hin' (by omega)).mono ?_
        rintro e w3 ⟨rfl, he3⟩
        rw [HR.out]; simp only
        go_wp2_with fail
        go_roundw
        case rel => exact ⟨k + 1, by omega, by go_num, hex.trans he3⟩
        case measure => simp [intOf]; omega
      · go_wp2_with fail
        have hex2 := hex
        go_loopw [11] (fun i wr => ∃ k : Nat, k ≤ x2.length ∧ i = .int .i64 (k : Int) ∧ Ext w2 wr) (fun i _ => x2.length - (intOf i).toNat)
        case atStart => exact ⟨0, by omega, rfl, hex2⟩
        case round =>
          obtain ⟨k2, hk2, rfl, hex3⟩ := hrel
          by_cases hlt2 : k2 < x2.length
          · obtain ⟨A', c', hs, hin'⟩ := preB (hin2.ext hex3) k2 (by omega)
            have hl' : (x2.take k2).length ≤ 1000 := by simp; omega
            have HR : Hid (textR (x2.take k2) 0 = ([], 0, 3)) := Lib.hid (cut_text t (by omega) k2 (by rw [E2.out] at hlt2; exact hlt2) x2 E2.out)
            go_wp2_with fail
            refine (Text_any _ _ 0 wr hin' (by omega)).mono ?_
            rintro e w4 ⟨rfl, he4⟩
            rw [HR.out]; simp only
            go_wp2_with fail
            go_roundw
            case rel => exact ⟨k2 + 1, by omega, by go_num, hex3.trans he4⟩
            case measure => simp [intOf]; omega
          · go_wp2_with fail
            refine (known_any wr).mono ?_
            rintro e w5 ⟨rfl, he5⟩
            go_wp2_with fail
            go_ret
            exact ⟨rfl, (he.trans hex3).trans he5⟩
  · have h' : ¬ (200 : Int) < (s.size : Int) := by omega
    have ht : s.size ≤ 200 := by omega
    obtain ⟨t, rfl⟩ : ∃ t, t = s := ⟨_, rfl⟩
    go_enter Try.func10, Try.ntmps10
    go_wp2_with fail
    clear h h'
    refine (AppendInt_any _ [] v w (InV.nil w) (by simp) hv1 hv).mono ?_
    rintro e w1 ⟨y1, rfl, ho1, he1⟩
    rw [List.nil_append] at ho1
    obtain ⟨x1, A1, c1, E1, rfl, hin1⟩ := ho1.named
    clear ho1
    go_wp2_with fail
    refine (AppendText_any _ [] t w1 (InV.nil w1) (by simp) (by omega)).mono ?_
    rintro e w2 ⟨y2, rfl, ho2, he2⟩
    rw [List.nil_append] at ho2
    obtain ⟨x2, A2, c2, E2, rfl, hin2⟩ := ho2.named
    clear ho2
    have he := he1.trans he2
    have hin1 := hin1.ext he2
    have hx1 : 0 < x1.length ∧ x1.length ≤ 10 := by rw [E1.out]; exact ⟨leb_pos _, leb_len10 (zig_lt hv1 hv)⟩
    have hx2 : 0 < x2.length ∧ x2.length ≤ 1000 := by
      have h1 := leb_pos t.size
      have h2 := leb_len10 (u := t.size) (by omega)
      have h3 : t.data.toList.length = t.size := by rw [Array.length_toList]; rfl
      rw [E2.out, List.length_append]
      omega
    go_wp2_with fail
    clear he1 he2
    go_loopw [7] (fun i wr => ∃ k : Nat, k ≤ x1.length ∧ i = .int .i64 (k : Int) ∧ Ext w2 wr) (fun i _ => x1.length - (intOf i).toNat)
    case atStart => exact ⟨0, by omega, rfl, Ext.refl _⟩
    case round =>
      obtain ⟨k, hk, rfl, hex⟩ := hrel
      by_cases hlt : k < x1.length
      · obtain ⟨A', c', hs, hin'⟩ := preB (hin1.ext hex) k (by omega)
        have hl' : (x1.take k).length ≤ 10 := by simp; omega
        have hR : ∃ a b, intR (x1.take k) 0 = (a, b, 3) := cut_int v hv1 hv k (by rw [E1.out] at hlt; exact hlt) x1 E1.out
        obtain ⟨ra, rb, hR⟩ := hR
        have HR := Lib.hid hR
        clear hR
        go_wp2_with fail
        refine (Int_any _ _ 0 wr hin' (by omega)).mono ?_
        rintro e w3 ⟨rfl, he3⟩
        rw [HR.out]; simp only
        go_wp2_with fail
        go_roundw
        case rel => exact ⟨k + 1, by omega, by go_num, hex.trans he3⟩
        case measure => simp [intOf]; omega
      · go_wp2_with fail
        have hex2 := hex
        go_loopw [11] (fun i wr => ∃ k : Nat, k ≤ x2.length ∧ i = .int .i64 (k : Int) ∧ Ext w2 wr) (fun i _ => x2.length - (intOf i).toNat)
        case atStart => exact ⟨0, by omega, rfl, hex2⟩
        case round =>
          obtain ⟨k2, hk2, rfl, hex3⟩ := hrel
          by_cases hlt2 : k2 < x2.length
          · obtain ⟨A', c', hs, hin'⟩ := preB (hin2.ext hex3) k2 (by omega)
            have hl' : (x2.take k2).length ≤ 1000 := by simp; omega
            have HR : Hid (textR (x2.take k2) 0 = ([], 0, 3)) := Lib.hid (cut_text t (by omega) k2 (by rw [E2.out] at hlt2; exact hlt2) x2 E2.out)
            go_wp2_with fail
            refine (Text_any _ _ 0 wr hin' (by omega)).mono ?_
            rintro e w4 ⟨rfl, he4⟩
            rw [HR.out]; simp only
            go_wp2_with fail
            go_roundw
            case rel => exact ⟨k2 + 1, by omega, by go_num, hex3.trans he4⟩
            case measure => simp [intOf]; omega
          · go_wp2_with fail
            refine (known_any wr).mono ?_
            rintro e w5 ⟨rfl, he5⟩
            go_wp2_with fail
            go_ret
            exact ⟨rfl, (he.trans hex3).trans he5⟩
end Go.Proofs.Ytcicehnbkhecdaa
