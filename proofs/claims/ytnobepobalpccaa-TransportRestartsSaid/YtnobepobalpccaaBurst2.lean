/- A burst in bytes. Plain lists; no program here. -/
import Derived.Test.YtnobepobalpccaaBurst
namespace Go.Proofs.Ytnobepobalpccaa
set_option linter.unusedVariables false

theorem crcK_low (k : Nat) {x : Nat} (h : x * 2 ^ k < 65536) : crcK k x = x * 2 ^ k := by
  induction k with
  | zero => simp [crcK]
  | succ k ih =>
    have e : x * 2 ^ (k + 1) = 2 * (x * 2 ^ k) := by rw [Nat.pow_succ, ← Nat.mul_assoc, Nat.mul_comm]
    rw [e] at h ⊢
    show crc1 (crcK k x) = _
    rw [ih (by omega)]
    unfold crc1
    rw [if_neg (by omega)]
    omega
theorem crcB_zero {r : Nat} (h : r < 65536) (hi : UInt8) (hh : hi.toNat = r / 256) : crcB r hi = r % 256 * 256 := by
  unfold crcB
  have e : r ^^^ (hi.toNat * 256) = r % 256 := by
    apply Nat.eq_of_testBit_eq
    intro i
    rw [Nat.testBit_xor, hh, Nat.mul_comm, show (256 : Nat) = 2 ^ 8 from rfl, Nat.testBit_two_pow_mul, Nat.testBit_mod_two_pow, Nat.testBit_div_two_pow]
    by_cases h8 : 8 ≤ i
    · rw [decide_eq_true h8, decide_eq_false (by omega), Nat.sub_add_cancel h8]
      simp
    · rw [decide_eq_false h8, decide_eq_true (by omega)]
      simp
  rw [e]
  exact crcK_low 8 (by omega)
theorem crc_two {r : Nat} (hr : r < 65536) : crcL r [hiB r, loB r] = 0 := by
  have h1 : (hiB r).toNat = r / 256 := by
    unfold hiB
    rw [UInt8.toNat_ofNat']
    omega
  have h2 : (loB r).toNat = r % 256 := by
    unfold loB
    rw [UInt8.toNat_ofNat']
    omega
  rw [crcL, List.foldl_cons, List.foldl_cons, List.foldl_nil, crcB_zero hr _ h1]
  unfold crcB
  rw [h2, Nat.xor_self, crcK_low 8 (x := 0) (by simp), Nat.zero_mul]
theorem crcOK_zero {b : List UInt8} (h : crcOK b) (h3 : 3 ≤ b.length) : crcL 65535 b = 0 := by
  have e := crcOK_tail h h3
  have hr : crcL 65535 (cutB2 b) < 65536 := crcL_lt _ (by omega)
  refine (congrArg (crcL 65535) e).trans ?_
  rw [crcL_append, sumB]
  exact crc_two hr
def bitAt (l : List UInt8) (i : Nat) : Bool := (l.getD (i / 8) 0).toNat.testBit (7 - i % 8)
theorem bitsL_getD (l : List UInt8) (i : Nat) : (bitsL l).getD i false = bitAt l i := by
  induction l generalizing i with
  | nil => simp [bitsL, bitAt]
  | cons c l ih =>
    have e2 : bitsL (c :: l) = bitsB c ++ bitsL l := by rw [bitsL, List.flatMap_cons, ← bitsL]
    rw [e2]
    by_cases h : i < 8
    · rw [List.getD_eq_getElem?_getD, List.getElem?_append_left (by rw [bitsB_length]; omega), bitsB, List.getElem?_map, List.getElem?_range h, bitAt, show i / 8 = 0 by omega, show i % 8 = i by omega]
      simp
    · rw [List.getD_eq_getElem?_getD, List.getElem?_append_right (by rw [bitsB_length]; omega), bitsB_length, ← List.getD_eq_getElem?_getD, ih, bitAt, bitAt, show i / 8 = (i - 8) / 8 + 1 by omega, show (i - 8) % 8 = i % 8 by omega]
      simp
theorem bitAt_ext {a b : List UInt8} (hl : a.length = b.length) (h : ∀ i, i < 8 * a.length → bitAt a i = bitAt b i) : a = b := by
  apply List.ext_getElem hl
  intro j h1 h2
  apply UInt8.toNat_inj.mp
  apply Nat.eq_of_testBit_eq
  intro t
  by_cases ht : t < 8
  · have := h (8 * j + (7 - t)) (by omega)
    unfold bitAt at this
    rw [show (8 * j + (7 - t)) / 8 = j by omega, show 7 - (8 * j + (7 - t)) % 8 = t by omega] at this
    simpa [List.getD_eq_getElem?_getD, List.getElem?_eq_getElem h1, List.getElem?_eq_getElem h2] using this
  · have g : ∀ c : UInt8, c.toNat.testBit t = false := fun c => Nat.testBit_lt_two_pow (Nat.lt_of_lt_of_le (show c.toNat < 2 ^ 8 from c.toNat_lt) (Nat.pow_le_pow_right (by omega) (by omega)))
    rw [g, g]
theorem bitAt_flip {l : List UInt8} {j : Nat} (hj : j / 8 < l.length) (c : UInt8) (hc : c.toNat = (l[j / 8]).toNat ^^^ 2 ^ (7 - j % 8)) (i : Nat) :
    bitAt (l.set (j / 8) c) i = xor (bitAt l i) (decide (i = j)) := by
  unfold bitAt
  by_cases h : i / 8 = j / 8
  · rw [h, List.getD_eq_getElem?_getD, List.getElem?_set_self hj, List.getD_eq_getElem?_getD, List.getElem?_eq_getElem hj]
    simp only [Option.getD_some]
    rw [hc, Nat.testBit_xor, Nat.testBit_two_pow]
    congr 1
    exact decide_eq_decide.mpr ⟨fun e => by omega, fun e => by omega⟩
  · rw [List.getD_eq_getElem?_getD, List.getElem?_set_ne (fun e => h e.symm), List.getD_eq_getElem?_getD, decide_eq_false (fun e => h (by rw [e]))]
    simp
/-- the law of bursts -/
theorem burst_law {b x : List UInt8} (hl : x.length = b.length) (h3 : 3 ≤ b.length) (at_ : Nat) (f : Nat → Bool) (ha : at_ < 8 * b.length)
    (hf : ∀ i, f i = true → at_ ≤ i ∧ i < at_ + 16) (hx : ∀ i, i < 8 * b.length → bitAt x i = xor (bitAt b i) (f i)) (hb : crcOK b) (hcx : crcOK x) : x = b := by
  have z1 := crcOK_zero hb h3
  have z2 := crcOK_zero hcx (by omega)
  rw [crcL_bits _ (by omega)] at z1 z2
  obtain ⟨k, hk⟩ : ∃ k, k = min 16 (8 * b.length - at_) := ⟨_, rfl⟩
  have hm := burst_none (r := 65535) (by omega) (bitsL b) (bitsL x) at_ (8 * b.length - at_ - k) ((List.range k).map (fun t => f (at_ + t))) (by simp; omega) (by rw [bitsL_length]; simp; omega) (by
    apply List.ext_getElem
    · simp [bitsL_length]; omega
    intro i h1 h2
    have g1 : (bitsL x)[i] = bitAt x i := by rw [← bitsL_getD, List.getD_eq_getElem?_getD, List.getElem?_eq_getElem h1]; rfl
    rw [bitsL_length] at h1
    have h1b : i < (bitsL b).length := by rw [bitsL_length]; omega
    have g2 : (bitsL b)[i] = bitAt b i := by rw [← bitsL_getD, List.getD_eq_getElem?_getD, List.getElem?_eq_getElem h1b]; rfl
    rw [List.getElem_zipWith, g1, g2, hx i (by omega)]
    congr 1
    by_cases hA : i < at_
    · rw [List.getElem_append_left (by simp; omega), List.getElem_append_left (by simp; omega), List.getElem_replicate]
      cases hq : f i
      · rfl
      · have := hf i hq; omega
    · by_cases hB : i < at_ + k
      · rw [List.getElem_append_left (by simp; omega), List.getElem_append_right (by simp; omega), List.getElem_map, List.getElem_range]
        congr 1
        simp
        omega
      · rw [List.getElem_append_right (by simp; omega), List.getElem_replicate]
        cases hq : f i
        · rfl
        · have := hf i hq; omega) (by rw [z1, z2])
  apply bitAt_ext hl
  intro i hi
  rw [hx i (by omega)]
  cases hq : f i
  · simp
  · have h5 := hf i hq
    have h6 : ((List.range k).map (fun t => f (at_ + t)))[i - at_]? = some (f i) := by
      rw [List.getElem?_map, List.getElem?_range (by omega)]
      simp
      congr 1
      omega
    rw [hm, List.getElem?_replicate] at h6
    split at h6
    · rw [hq] at h6; simp at h6
    · simp at h6
end Go.Proofs.Ytnobepobalpccaa
