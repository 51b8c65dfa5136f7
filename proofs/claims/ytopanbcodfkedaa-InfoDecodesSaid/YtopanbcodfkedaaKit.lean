/- The contract of debuggerkit.Mod. -/
import Derived.Test.YtopanbcodfkedaaProg
import Derived.Test.YtopanbcodfkedaaBase
namespace Go.Proofs.Ytopanbcodfkedaa
open Go.RowKit

theorem tmod_fix (n k : Int) (hk : 0 < k) : (if n.tmod k < 0 then n.tmod k + k else n.tmod k) = n % k := by
  rcases Int.le_total 0 n with h | h
  · rw [if_neg (by have := Int.tmod_nonneg k h; omega), Int.tmod_eq_emod_of_nonneg h]
  · have h1 : n.tmod k = -((-n) % k) := by rw [← Int.tmod_eq_emod_of_nonneg (show 0 ≤ -n by omega), Int.neg_tmod]; omega
    have h2 := Int.emod_nonneg (-n) (show k ≠ 0 by omega)
    have h3 := Int.emod_lt_of_pos (-n) hk
    have h4 := Int.emod_nonneg n (show k ≠ 0 by omega)
    have h5 := Int.emod_lt_of_pos n hk
    have h6 := Int.emod_add_mul_ediv (-n) k
    have h7 := Int.emod_add_mul_ediv n k
    rw [h1]
    generalize (-n) % k = a at *
    generalize n % k = b at *
    have h8 : k * ((-n) / k + n / k) = -(a + b) := by rw [Int.mul_add]; omega
    generalize (-n) / k + n / k = q at *
    by_cases ha : a = 0
    · subst ha
      have : q = 0 := by
        rcases Int.lt_trichotomy q 0 with hq | hq | hq
        · have : k * q ≤ k * (-1) := Int.mul_le_mul_of_nonneg_left (by omega) (by omega)
          omega
        · exact hq
        · have : k * 1 ≤ k * q := Int.mul_le_mul_of_nonneg_left (by omega) (by omega)
          omega
      subst this
      rw [if_neg (by omega)]; omega
    · have : q = -1 := by
        rcases Int.lt_trichotomy q (-1) with hq | hq | hq
        · have : k * q ≤ k * (-2) := Int.mul_le_mul_of_nonneg_left (by omega) (by omega)
          omega
        · exact hq
        · have : k * 0 ≤ k * q := Int.mul_le_mul_of_nonneg_left (by omega) (by omega)
          omega
      subst this
      rw [if_pos (by omega)]; omega

set_option maxRecDepth 100000 in
theorem Mod_any (n k : Int) (w : World) (hk : 0 < k) (hk2 : k ≤ 4611686018427387904) :
    Calls Try.prog 14 #[.int .i64 n, .int .i64 k] w fun e w' => e = .returned (.int .i64 (n % k)) ∧ w = w' := by
  have hf := tmod_fix n k hk
  have h1 := Int.tmod_lt_of_pos n hk
  have h2 : -k < n.tmod k := by
    rcases Int.le_total 0 n with h | h
    · have := Int.tmod_nonneg k h; omega
    · have h3 := Int.tmod_lt_of_pos (-n) hk
      rw [Int.neg_tmod] at h3; omega
  have hne : (k == 0) = false := by simp; omega
  have hne1 : (k == -1) = false := by simp; omega
  obtain ⟨m, hm⟩ : ∃ m, n.tmod k = m := ⟨_, rfl⟩
  have Hf := Lib.hid hf
  clear hf
  rw [hm] at h1 h2
  by_cases h0 : m < 0
  · have HF : Hid (n % k = m + k) := Lib.hid (by have := Hf.out; rw [hm, if_pos h0] at this; exact this.symm)
    go_enter Try.func14, Try.ntmps14
    go_wp2
    go_ret
    exact ⟨by rw [HF.out]; rfl, rfl⟩
  · have HF : Hid (n % k = m) := Lib.hid (by have := Hf.out; rw [hm, if_neg h0] at this; exact this.symm)
    go_enter Try.func14, Try.ntmps14
    go_wp2
    go_ret
    exact ⟨by rw [HF.out]; rfl, rfl⟩
end Go.Proofs.Ytopanbcodfkedaa
