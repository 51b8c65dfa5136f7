/- Contracts of the reading functions of the reference of layer 1. -/
import Derived.Test.YtopanbcodfkedaaWireD
namespace Go.Proofs.Ytopanbcodfkedaa
open Go.RowKit

theorem join7r (u x k : Nat) (hu : u < 2 ^ (7 * k)) (hk : k ≤ 8 ∨ (k = 9 ∧ x ≤ 1)) :
    bits .or .u64 (u : Int) (IntKind.u64.wrap ((x : Int) % 128 * 2 ^ (7 * k))) = ((u + x % 128 * 2 ^ (7 * k) : Nat) : Int) := by
  have h := join7 u (x % 128) k hu (by omega) (by omega)
  have h1 : bits .and .u8 ((x % 128 : Nat) : Int) 127 = ((x % 128 : Nat) : Int) := by
    have := u8_and_nat (x % 128) 127 (by omega) (by omega)
    rw [nat_mask7, Nat.mod_mod] at this
    exact this
  rw [h1, wrap_u64 ((x % 128 : Nat) : Int), show ((x % 128 : Nat) : Int) % 18446744073709551616 = (x : Int) % 128 by omega, Nat.mod_mod] at h
  exact h

set_option maxRecDepth 100000 in
theorem number_loop (A : Option Addr) (c : Nat) (l : List UInt8) (p last most : Nat) (w : World) (hr : Rd w A (l.map bv)) (hl : l.length ≤ 4294967296) (hp : p ≤ l.length)
    (hlm : (last = 8 ∧ most = 127) ∨ (last = 9 ∧ most = 1)) :
    Calls Try.prog 65 #[.slice A l.length c, .int .i64 (p : Int), .int .i64 ((last : Int) + 1), .int .u8 (most : Int)] w fun e w' => e = .returned (rdV (rdAt last most l p)) ∧ w = w' := by
  have hlast : last ≤ 9 := by omega
  have hmost : most < 128 := by omega
  have Hlm := Lib.hid hlm
  clear hlm
  go_enter Try.func65, Try.ntmps65
  go_wp2_with fail
  go_loop [11, 12] (fun x y => ∃ k u : Nat, x = .int .u64 (u : Int) ∧ y = .int .i64 (k : Int) ∧ k ≤ last ∧ u < 2 ^ (7 * k) ∧ p + k ≤ l.length ∧ rd last most (l.drop p) 0 0 = rd last most (l.drop (p + k)) k u) (fun _ y => 10 - (intOf y).toNat)
  case atStart => exact ⟨0, 0, rfl, rfl, Nat.zero_le _, by decide, by omega, rfl⟩
  case round =>
    obtain ⟨k, u, rfl, rfl, hk, hu, hpk, hrd⟩ := hrel
    have Hrd := Lib.hid hrd
    clear hrd
    have Hu := Lib.hid hu
    clear hu
    by_cases hlt : p + k < l.length
    · obtain ⟨b1, o1, rfl, hc1⟩ := hr.byte hlt
      have Hd := Lib.hid (drop_at hlt)
      have hi1 : (p : Int) + (k : Int) < (l.length : Int) := by omega
      have hn1 : ((p : Int) + (k : Int)).toNat = p + k := by omega
      generalize l[p + k] = x at *
      have hx : x.toNat < 256 := x.toNat_lt
      by_cases b1 : k = last
      · subst b1
        by_cases b2 : most < x.toNat
        · go_wp2_with fail
          go_ret3
          exact ⟨by rw [rdAt_of hp (Hrd.out.trans (by rw [Hd.out, rd_range ⟨rfl, b2⟩]))]; rfl, rfl⟩
        · have h0 : 0 < k := by have := Hlm.out; omega
          by_cases b3 : x.toNat = 0
          · have H3 := Lib.hid b3
            have e3 : ((x.toNat : Int) == 0) = true := by simp [b3]
            clear b3
            go_wp2_with fail
            go_ret3
            exact ⟨by rw [rdAt_of hp (Hrd.out.trans (by rw [Hd.out, rd_form (by omega) ⟨H3.out, h0⟩]))]; rfl, rfl⟩
          · have e3 : ((x.toNat : Int) == 0) = false := by simp; omega
            have b5 : x.toNat < 128 := by omega
            have ej := join7r u x.toNat k Hu.out (by have := Hlm.out; omega)
            go_wp2_with fail
            go_ret3
            exact ⟨by rw [rdAt_of hp (Hrd.out.trans (by rw [Hd.out, rd_done (by omega) (by omega) b5]))]; simp [rdV]; omega, rfl⟩
      · have e1 : ((k : Int) == (last : Int)) = false := by simp; omega
        by_cases b3 : x.toNat = 0
        · by_cases b4 : 0 < k
          · have H3 := Lib.hid b3
            have e3 : ((x.toNat : Int) == 0) = true := by simp [b3]
            clear b3
            go_wp2_with fail
            go_ret3
            exact ⟨by rw [rdAt_of hp (Hrd.out.trans (by rw [Hd.out, rd_form (by omega) ⟨H3.out, b4⟩]))]; rfl, rfl⟩
          · have H3 := Lib.hid b3
            have e3 : ((x.toNat : Int) == 0) = true := by simp [b3]
            have b5 : x.toNat < 128 := by omega
            have ej := join7r u x.toNat k Hu.out (by omega)
            clear b3
            go_wp2_with fail
            go_ret3
            exact ⟨by rw [rdAt_of hp (Hrd.out.trans (by rw [Hd.out, rd_done (by omega) (by omega) b5]))]; simp [rdV]; omega, rfl⟩
        · have e3 : ((x.toNat : Int) == 0) = false := by simp; omega
          by_cases b5 : x.toNat < 128
          · have ej := join7r u x.toNat k Hu.out (by omega)
            go_wp2_with fail
            go_ret3
            exact ⟨by rw [rdAt_of hp (Hrd.out.trans (by rw [Hd.out, rd_done (by omega) (by omega) b5]))]; simp [rdV]; omega, rfl⟩
          · have ej := join7r u x.toNat k Hu.out (by omega)
            go_wp2_with fail
            refine ⟨⟨k + 1, u + x.toNat % 128 * 2 ^ (7 * k), by simp, by go_num, by omega, join7_lt Hu.out, by omega, ?_⟩, by simp [intOf]; omega⟩
            rw [Hrd.out, Hd.out, rd_more (by omega) (by omega) b5]; rfl
    · go_wp2_with fail
      go_ret3
      refine ⟨?_, rfl⟩
      rw [rdAt_of hp (Hrd.out.trans (by rw [List.drop_of_length_le (by omega), rd]))]
      rfl

theorem number_any (x : Value) (l : List UInt8) (p : Int) (last most : Nat) (w : World) (hx : InB w x l) (hl : l.length ≤ 4294967296) (hlm : (last = 8 ∧ most = 127) ∨ (last = 9 ∧ most = 1)) :
    Calls Try.prog 65 #[x, .int .i64 p, .int .i64 ((last : Int) + 1), .int .u8 (most : Int)] w fun e w' => e = .returned (rdV (rdAt last most l p)) ∧ w = w' := by
  obtain ⟨A, c, rfl, _, hr⟩ := hx
  by_cases h0 : p < 0
  · have H : Hid (rdAt last most l p = (0, 0, 1)) := Lib.hid (by unfold rdAt; rw [if_pos (.inl h0)])
    clear hlm
    go_enter Try.func65, Try.ntmps65
    go_wp2_with fail
    go_ret3
    exact ⟨by rw [H.out]; rfl, rfl⟩
  · obtain ⟨q, rfl⟩ := Int.eq_ofNat_of_zero_le (show 0 ≤ p by omega)
    by_cases h1 : l.length < q
    · have H : Hid (rdAt last most l (q : Int) = (0, 0, 1)) := Lib.hid (by unfold rdAt; rw [if_pos (.inr (by omega))])
      have h1' : (l.length : Int) < (q : Int) := by omega
      clear hlm
      go_enter Try.func65, Try.ntmps65
      go_wp2_with fail
      go_ret3
      exact ⟨by rw [H.out]; rfl, rfl⟩
    · exact number_loop A c l q last most w hr hl (by omega) hlm

set_option maxRecDepth 100000 in
theorem refUint_any (x : Value) (l : List UInt8) (p : Int) (w : World) (hx : InB w x l) (hl : l.length ≤ 4294967296) :
    Calls Try.prog 60 #[x, .int .i64 p] w fun e w' => e = .returned (.tuple #[.int .i64 (uintR l p).1, .int .i64 (uintR l p).2.1, .int .i64 (uintR l p).2.2]) ∧ w = w' := by
  have hlt := rdAt_lt8 l p
  go_enter Try.func60, Try.ntmps60
  go_wp2_with fail
  refine (number_any x l p 8 127 w hx hl (by omega)).mono ?_
  rintro e w1 ⟨rfl, rfl⟩
  obtain ⟨⟨u, n, er⟩, hr⟩ : ∃ r, rdAt 8 127 l p = r := ⟨_, rfl⟩
  rw [hr] at hlt ⊢
  have HR := Lib.hid hr
  clear hr
  simp only [rdV] at hlt ⊢
  go_wp2_with fail
  go_ret3
  exact ⟨by unfold uintR; rw [HR.out]; rfl, rfl⟩

set_option maxRecDepth 100000 in
theorem refInt_any (x : Value) (l : List UInt8) (p : Int) (w : World) (hx : InB w x l) (hl : l.length ≤ 4294967296) :
    Calls Try.prog 66 #[x, .int .i64 p] w fun e w' => e = .returned (.tuple #[.int .i64 (intR l p).1, .int .i64 (intR l p).2.1, .int .i64 (intR l p).2.2]) ∧ w = w' := by
  have hlt := rdAt_lt9 l p
  go_enter Try.func66, Try.ntmps66
  go_wp2_with fail
  refine (number_any x l p 9 1 w hx hl (by omega)).mono ?_
  rintro e w1 ⟨rfl, rfl⟩
  obtain ⟨⟨u, n, er⟩, hr⟩ : ∃ r, rdAt 9 1 l p = r := ⟨_, rfl⟩
  rw [hr] at hlt ⊢
  have HR := Lib.hid hr
  clear hr
  simp only [rdV] at hlt ⊢
  by_cases h1 : u % 2 = 1
  · have hb : ((u : Int) % 2 == 1) = true := by simp; omega
    have hn : bits .xor .u64 IntKind.u64.max ((u : Int) / 2) = 18446744073709551615 - (u : Int) / 2 := u64_notI _ (by omega) (by omega)
    have hw : wrap64 (bits .xor .u64 IntKind.u64.max ((u : Int) / 2)) = -((u : Int) / 2) - 1 := by rw [hn]; unfold wrap64; omega
    have HZ : Hid (unzig u = -((u / 2 : Nat) : Int) - 1) := Lib.hid (by unfold unzig; rw [if_pos h1])
    clear hn h1
    go_wp2_with fail
    go_ret3
    exact ⟨by unfold intR; rw [HR.out, HZ.out]; rfl, rfl⟩
  · have hb : ((u : Int) % 2 == 1) = false := by simp; omega
    have HZ : Hid (unzig u = ((u / 2 : Nat) : Int)) := Lib.hid (by unfold unzig; rw [if_neg h1])
    go_wp2_with fail
    go_ret3
    exact ⟨by unfold intR; rw [HR.out, HZ.out]; rfl, rfl⟩

set_option maxRecDepth 100000 in
theorem refText_any (x : Value) (l : List UInt8) (p : Int) (w : World) (hx : InB w x l) (hl : l.length ≤ 4294967296) :
    Calls Try.prog 63 #[x, .int .i64 p] w fun e w' => e = .returned (.tuple #[.string ⟨(textR l p).1.toArray⟩, .int .i64 (textR l p).2.1, .int .i64 (textR l p).2.2]) ∧ w = w' := by
  have hx' := hx
  obtain ⟨A, c, rfl, hc, _⟩ := hx'
  have hlt := rdAt_lt8 l p
  have hn := fun h => uintR_next (l := l) (p := p) h
  have h1 : (uintR l p).1 = ((rdAt 8 127 l p).1 : Int) := rfl
  rw [← Int.ofNat_lt, ← h1] at hlt
  have h0 : 0 ≤ (uintR l p).1 := by rw [h1]; omega
  clear h1
  obtain ⟨⟨u, n, er⟩, hr⟩ : ∃ r, uintR l p = r := ⟨_, rfl⟩
  rw [hr] at hlt hn h0
  have HR := Lib.hid hr
  clear hr
  simp only at hlt hn h0
  go_enter Try.func63, Try.ntmps63
  go_wp2_with fail
  refine (refUint_any _ l p w hx hl).mono ?_
  rintro e w1 ⟨rfl, rfl⟩
  rw [HR.out]
  simp only
  by_cases hz : er = 0
  · subst hz
    have hnn := hn rfl
    clear hn
    by_cases hgt : (l.length : Int) - n < u
    · have H : Hid (textR l p = ([], 0, 3)) := Lib.hid (by unfold textR; rw [HR.out, if_neg (by simp), if_pos hgt])
      go_wp2_with fail
      go_ret3
      exact ⟨by rw [H.out]; rfl, rfl⟩
    · obtain ⟨m, rfl⟩ := Int.eq_ofNat_of_zero_le h0
      obtain ⟨q, rfl⟩ := Int.eq_ofNat_of_zero_le (show 0 ≤ n by omega)
      have H : Hid (textR l p = ((l.drop q).take m, (q : Int) + m, 0)) := Lib.hid (by
        unfold textR; rw [HR.out, if_neg (by simp), if_neg hgt]; simp)
      obtain ⟨y, hy, hin⟩ := cutB hx q (q + m) (by omega) (by omega)
      have hst := strB hin
      rw [show q + m - q = m by omega] at hst
      have hy' : ∀ W, (Instr.slice 29 (.slice A l.length c) (some (.int .i64 (q : Int))) (some (.int .i64 ((q : Int) + (m : Int)))) none).run Try.prog W = .ok y W := by simpa using hy
      clear hy
      have hin2 := Lib.hid hin
      clear hin
      go_wp2_with fail
      go_ret3
      exact ⟨by rw [H.out]; rfl, rfl⟩
  · have H : Hid (textR l p = ([], 0, er)) := Lib.hid (by unfold textR; rw [HR.out, if_pos hz])
    have hb : (er != 0) = true := by simpa using hz
    clear hn hz
    go_wp2_with fail
    go_ret3
    exact ⟨by rw [H.out]; rfl, rfl⟩
end Go.Proofs.Ytopanbcodfkedaa
