/- What is read is what would be written: the bytes of a number that is read are its own. No program here. -/
import Derived.Test.YtopanbcodfkedaaPlain2
namespace Go.Proofs.Ytopanbcodfkedaa

theorem rd_inv (last most : Nat) : ∀ (l : List UInt8) (i u v n : Nat), rd last most l i u = (v, n, 0) → i = 0 ∨ 0 < i →
    ∃ x, v = u + x * 2 ^ (7 * i) ∧ i < n ∧ l.take (n - i) = leb x ∧ (0 < i → x ≠ 0) := by
  intro l
  induction l with
  | nil => intro i u v n h _; simp [rd] at h
  | cons c r ih =>
    intro i u v n h _
    by_cases h1 : i = last ∧ most < c.toNat
    · rw [rd_range h1] at h; simp at h
    · by_cases h2 : c.toNat = 0 ∧ 0 < i
      · rw [rd_form h1 h2] at h; simp at h
      · by_cases h3 : c.toNat < 128
        · rw [rd_done h1 h2 h3] at h
          simp only [Prod.mk.injEq] at h
          obtain ⟨rfl, rfl, _⟩ := h
          refine ⟨c.toNat, ?_, by omega, ?_, fun hi e => h2 ⟨e, hi⟩⟩
          · rw [Nat.mod_eq_of_lt h3]
          · rw [show i + 1 - i = 1 by omega, leb_small h3]
            simp
        · rw [rd_more h1 h2 h3] at h
          obtain ⟨x, hv, hn, ht, hx⟩ := ih (i + 1) _ v n h (.inr (by omega))
          have hx0 := hx (by omega)
          have hc := c.toNat_lt
          refine ⟨c.toNat % 128 + 128 * x, ?_, by omega, ?_, fun _ => by omega⟩
          · rw [hv, pow7s, Nat.add_mul, Nat.add_assoc]
            congr 2
            rw [Nat.mul_comm 128 x, Nat.mul_assoc]
          · have eL : leb (c.toNat % 128 + 128 * x) = c :: leb x := by
              rw [leb_big (by omega), show (c.toNat % 128 + 128 * x) % 128 + 128 = c.toNat by omega, show (c.toNat % 128 + 128 * x) / 128 = x by omega]
              simp
            rw [show n - i = (n - (i + 1)) + 1 by omega, List.take_succ_cons, ht, eL]

theorem uintR_inv {l : List UInt8} {p : Int} (h : (uintR l p).2.2 = 0) : 0 ≤ (uintR l p).1 ∧ (uintR l p).1 < 9223372036854775808 ∧
    l.drop p.toNat = leb (uintR l p).1.toNat ++ l.drop (uintR l p).2.1.toNat := by
  have hlt := rdAt_lt8 l p
  have hnx := uintR_next h
  obtain ⟨h0, h1, h2⟩ := hnx
  have hp : p.toNat ≤ l.length := by omega
  rcases hr : rd 8 127 (l.drop p.toNat) 0 0 with ⟨v, n, er⟩
  have hat : rdAt 8 127 l ((p.toNat : Nat) : Int) = _ := rdAt_of hp hr
  rw [show ((p.toNat : Nat) : Int) = p by omega] at hat
  have e1 : (uintR l p).1 = (v : Int) := by simp [uintR, hat]
  have e2 : (uintR l p).2.2 = (er : Int) := by simp [uintR, hat]
  rw [e2] at h
  have her : er = 0 := by omega
  subst her
  obtain ⟨x, hv, hn, ht, _⟩ := rd_inv 8 127 _ 0 0 v n hr (.inl rfl)
  have e3 : (uintR l p).2.1 = p + (n : Int) := by
    simp [uintR, hat]
  have hvx : v = x := by simpa using hv
  subst hvx
  rw [Nat.sub_zero] at ht
  have hv8 : v < 9223372036854775808 := by rw [hat] at hlt; simpa using hlt
  refine ⟨by omega, by omega, ?_⟩
  rw [e1, e3, Int.toNat_natCast, ← ht]
  have : (p + (n : Int)).toNat = p.toNat + n := by omega
  rw [this, ← List.drop_drop, List.take_append_drop]
end Go.Proofs.Ytopanbcodfkedaa
