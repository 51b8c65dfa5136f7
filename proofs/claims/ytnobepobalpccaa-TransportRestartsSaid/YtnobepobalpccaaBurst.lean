/- A burst of at most 16 bits changes the check. Plain numbers; no program here. -/
import Derived.Test.YtnobepobalpccaaPacketH
namespace Go.Proofs.Ytnobepobalpccaa
set_option linter.unusedVariables false

/-- one bit, as a sum without a case -/
theorem crc1_eq (r : Nat) (h : r < 65536) : crc1 r = (2 * r % 65536) ^^^ (if r.testBit 15 then 4129 else 0) := by
  unfold crc1
  have e : r.testBit 15 = decide (32768 ≤ r) := by
    rw [Nat.testBit_eq_decide_div_mod_eq]
    by_cases h2 : 32768 ≤ r
    · rw [decide_eq_true h2, decide_eq_true]; omega
    · rw [decide_eq_false h2, decide_eq_false]; omega
  rw [e]
  by_cases h2 : 32768 ≤ r
  · simp [h2]
  · simp [h2]
theorem dbl_xor (a b : Nat) : 2 * (a ^^^ b) % 65536 = (2 * a % 65536) ^^^ (2 * b % 65536) := by
  apply Nat.eq_of_testBit_eq
  intro i
  rw [Nat.testBit_xor]
  simp only [show (65536 : Nat) = 2 ^ 16 from rfl, Nat.testBit_mod_two_pow]
  have d : ∀ x, (2 * x).testBit i = (decide (1 ≤ i) && x.testBit (i - 1)) := fun x => by
    have := Nat.testBit_two_pow_mul (i := 1) (a := x) (j := i)
    simpa using this
  rw [d, d, d, Nat.testBit_xor]
  cases decide (i < 16) <;> cases decide (1 ≤ i) <;> simp
theorem crc1_xor {a b : Nat} (ha : a < 65536) (hb : b < 65536) : crc1 (a ^^^ b) = crc1 a ^^^ crc1 b := by
  rw [crc1_eq _ (xor_lt16 ha hb), crc1_eq a ha, crc1_eq b hb, dbl_xor, Nat.testBit_xor]
  generalize 2 * a % 65536 = x
  generalize 2 * b % 65536 = y
  cases a.testBit 15 <;> cases b.testBit 15 <;> simp
  · rw [Nat.xor_assoc]
  · rw [Nat.xor_assoc, Nat.xor_comm y 4129, ← Nat.xor_assoc]
  · rw [Nat.xor_assoc x 4129, Nat.xor_comm 4129 (y ^^^ 4129), Nat.xor_assoc y, Nat.xor_self, Nat.xor_zero]
theorem crcK_xor {a b : Nat} (ha : a < 65536) (hb : b < 65536) (k : Nat) : crcK k (a ^^^ b) = crcK k a ^^^ crcK k b := by
  induction k with
  | zero => rfl
  | succ k ih =>
    show crc1 (crcK k (a ^^^ b)) = _
    rw [ih, crc1_xor (crcK_lt ha k) (crcK_lt hb k)]
    rfl
theorem crc1_zero {r : Nat} (h : r < 65536) (h0 : crc1 r = 0) : r = 0 := by
  unfold crc1 at h0
  split at h0
  · have h1 : 2 * r % 65536 = 4129 := by
      have := congrArg (· ^^^ 4129) h0
      simpa [Nat.xor_assoc] using this
    omega
  · omega
theorem crcK_zero (k : Nat) {r : Nat} (h : r < 65536) (h0 : crcK k r = 0) : r = 0 := by
  induction k with
  | zero => exact h0
  | succ k ih => exact ih (crc1_zero (crcK_lt h k) h0)

/-- bit by bit -/
def bitP (r : Nat) (es : List Bool) : Nat := es.foldl (fun r e => crc1 (r ^^^ (if e then 32768 else 0))) r
theorem bit_lt (e : Bool) : (if e then 32768 else 0 : Nat) < 65536 := by cases e <;> decide
theorem bitP_append (r : Nat) (a b : List Bool) : bitP r (a ++ b) = bitP (bitP r a) b := by simp [bitP]
theorem bitP_lt {r : Nat} (h : r < 65536) (es : List Bool) : bitP r es < 65536 := by
  induction es generalizing r with
  | nil => exact h
  | cons e es ih =>
    show bitP (crc1 (r ^^^ (if e then 32768 else 0))) es < 65536
    exact ih (crc1_lt _)
theorem bitP_xor {r s : Nat} (hr : r < 65536) (hs : s < 65536) (a b : List Bool) (hl : a.length = b.length) : bitP (r ^^^ s) (List.zipWith xor a b) = bitP r a ^^^ bitP s b := by
  induction a generalizing b r s with
  | nil =>
    cases b with
    | nil => rfl
    | cons _ _ => simp at hl
  | cons e a ih =>
    cases b with
    | nil => simp at hl
    | cons f b =>
      show bitP (crc1 ((r ^^^ s) ^^^ (if xor e f then 32768 else 0))) (List.zipWith xor a b) = bitP (crc1 (r ^^^ (if e then 32768 else 0))) a ^^^ bitP (crc1 (s ^^^ (if f then 32768 else 0))) b
      rw [← ih (crc1_lt _) (crc1_lt _) b (by simpa using hl), ← crc1_xor (xor_lt16 hr (bit_lt e)) (xor_lt16 hs (bit_lt f))]
      congr 2
      cases e <;> cases f <;> simp
      · rw [Nat.xor_assoc]
      · rw [Nat.xor_assoc, Nat.xor_comm s 32768, ← Nat.xor_assoc]
      · rw [Nat.xor_assoc r 32768, Nat.xor_comm 32768 (s ^^^ 32768), Nat.xor_assoc s, Nat.xor_self, Nat.xor_zero]
theorem crcK_comm (k r : Nat) : crcK k (crc1 r) = crc1 (crcK k r) := by
  induction k with
  | zero => rfl
  | succ k ih => show crc1 (crcK k (crc1 r)) = _; rw [ih]; rfl
theorem bitP_zeros (n r : Nat) : bitP r (List.replicate n false) = crcK n r := by
  induction n generalizing r with
  | zero => rfl
  | succ n ih =>
    rw [List.replicate_succ]
    show bitP (crc1 (r ^^^ 0)) (List.replicate n false) = _
    rw [ih, Nat.xor_zero, crcK_comm]
    rfl
/-- the first bits as a number of 16 bits -/
def numW : List Bool → Nat
  | [] => 0
  | e :: es => (if e then 32768 else 0) ^^^ (numW es / 2)
theorem numW_lt (es : List Bool) : numW es < 65536 := by
  induction es with
  | nil => decide
  | cons e es ih => exact xor_lt16 (bit_lt e) (by omega)
theorem numW_bit (es : List Bool) (i : Nat) : (numW es).testBit i = (decide (i ≤ 15) && es.getD (15 - i) false) := by
  induction es generalizing i with
  | nil => simp [numW]
  | cons e es ih =>
    have h1 : (if e then 32768 else 0 : Nat).testBit i = (e && decide (i = 15)) := by
      cases e
      · simp
      · simp only [if_true, Bool.true_and]
        rw [show (32768 : Nat) = 2 ^ 15 from rfl, Nat.testBit_two_pow]
        exact decide_eq_decide.mpr ⟨fun h => h.symm, fun h => h.symm⟩
    show ((if e then 32768 else 0 : Nat) ^^^ (numW es / 2)).testBit i = _
    rw [Nat.testBit_xor, h1, Nat.testBit_div_two, ih]
    by_cases h15 : i = 15
    · subst h15; simp
    · by_cases hl : i ≤ 15
      · rw [show 15 - i = (15 - (i + 1)) + 1 by omega, List.getD_cons_succ, decide_eq_false h15, decide_eq_true hl, decide_eq_true (show i + 1 ≤ 15 by omega)]
        simp
      · rw [decide_eq_false h15, decide_eq_false hl, decide_eq_false (show ¬ i + 1 ≤ 15 by omega)]
        simp
theorem numW_even (es : List Bool) (h : es.length ≤ 15) : numW es % 2 = 0 := by
  have := numW_bit es 0
  rw [Nat.testBit_zero] at this
  have e : es.getD (15 - 0) false = false := by
    rw [List.getD_eq_getElem?_getD, List.getElem?_eq_none (by omega)]
    rfl
  rw [e] at this
  simp at this
  omega
theorem numW_zero (es : List Bool) (h : es.length ≤ 16) (h0 : numW es = 0) : es = List.replicate es.length false := by
  apply List.ext_getElem (by simp)
  intro j hj _
  have := numW_bit es (15 - j)
  rw [h0, Nat.zero_testBit, decide_eq_true (by omega), show 15 - (15 - j) = j by omega, List.getD_eq_getElem?_getD, List.getElem?_eq_getElem hj] at this
  simpa using this.symm
theorem bitP_num (es : List Bool) (h : es.length ≤ 16) {r : Nat} (hr : r < 65536) : bitP r es = crcK es.length (r ^^^ numW es) := by
  induction es generalizing r with
  | nil => simp [bitP, numW, crcK]
  | cons e es ih =>
    have hl : es.length ≤ 15 := by simpa using h
    show bitP (crc1 (r ^^^ (if e then 32768 else 0))) es = crc1 (crcK es.length (r ^^^ ((if e then 32768 else 0) ^^^ (numW es / 2))))
    rw [ih (by omega) (crc1_lt _), ← crcK_comm, ← Nat.xor_assoc]
    have h2 := numW_lt es
    rw [crc1_xor (xor_lt16 hr (bit_lt e)) (show numW es / 2 < 65536 by omega)]
    congr 2
    have h3 := numW_even es hl
    unfold crc1
    rw [if_neg (by omega)]
    omega
/-- a byte's bits, the highest first -/
def bitsB (c : UInt8) : List Bool := (List.range 8).map (fun i => c.toNat.testBit (7 - i))
theorem bitsB_length (c : UInt8) : (bitsB c).length = 8 := by simp [bitsB]
theorem numW_bitsB (c : UInt8) : numW (bitsB c) = c.toNat * 256 := by
  apply Nat.eq_of_testBit_eq
  intro i
  have hc := c.toNat_lt
  rw [numW_bit, Nat.mul_comm, show (256 : Nat) = 2 ^ 8 from rfl, Nat.testBit_two_pow_mul]
  by_cases h8 : 8 ≤ i
  · by_cases h15 : i ≤ 15
    · rw [decide_eq_true h8, decide_eq_true h15, List.getD_eq_getElem?_getD, bitsB, List.getElem?_map, List.getElem?_range (by omega)]
      simp
      congr 1
      omega
    · rw [decide_eq_false h15, Nat.testBit_lt_two_pow (Nat.lt_of_lt_of_le (show c.toNat < 2 ^ 8 by omega) (Nat.pow_le_pow_right (by omega) (show 8 ≤ i - 8 by omega)))]
      simp
  · rw [decide_eq_false h8, List.getD_eq_getElem?_getD, List.getElem?_eq_none (by rw [bitsB_length]; omega)]
    simp
theorem crcB_bits {r : Nat} (hr : r < 65536) (c : UInt8) : crcB r c = bitP r (bitsB c) := by
  rw [bitP_num _ (by rw [bitsB_length]; omega) hr, bitsB_length, numW_bitsB]
  rfl
def bitsL (l : List UInt8) : List Bool := l.flatMap bitsB
theorem bitsL_length (l : List UInt8) : (bitsL l).length = 8 * l.length := by
  induction l with
  | nil => rfl
  | cons c l ih =>
    show (bitsB c ++ bitsL l).length = _
    rw [List.length_append, ih, bitsB_length, List.length_cons]
    omega
theorem crcL_bits (l : List UInt8) {r : Nat} (hr : r < 65536) : crcL r l = bitP r (bitsL l) := by
  induction l generalizing r with
  | nil => rfl
  | cons c l ih =>
    have e1 : crcL r (c :: l) = crcL (crcB r c) l := by rw [crcL, List.foldl_cons, ← crcL]
    have e2 : bitsL (c :: l) = bitsB c ++ bitsL l := by rw [bitsL, List.flatMap_cons, ← bitsL]
    rw [e1, e2, bitP_append, ih (crcB_lt hr c), crcB_bits hr]
/-- a burst of at most 16 bits that leaves the check as it was is no burst -/
theorem burst_none {r : Nat} (hr : r < 65536) (a b : List Bool) (i n : Nat) (m : List Bool) (hm : m.length ≤ 16) (hl : a.length = i + m.length + n)
    (hb : b = List.zipWith xor a (List.replicate i false ++ m ++ List.replicate n false)) (he : bitP r a = bitP r b) : m = List.replicate m.length false := by
  have hx := bitP_xor hr (show (0 : Nat) < 65536 by omega) a (List.replicate i false ++ m ++ List.replicate n false) (by simp; omega)
  rw [Nat.xor_zero, ← hb, ← he] at hx
  have h0 : bitP 0 (List.replicate i false ++ m ++ List.replicate n false) = 0 := by
    have := congrArg (bitP r a ^^^ ·) hx
    simpa [← Nat.xor_assoc] using this.symm
  rw [bitP_append, bitP_append, bitP_zeros, bitP_zeros] at h0
  have z : ∀ k, crcK k 0 = 0 := fun k => by
    induction k with
    | zero => rfl
    | succ k ih => show crc1 (crcK k 0) = 0; rw [ih]; decide
  rw [z] at h0
  have h1 := crcK_zero n (bitP_lt (by omega) m) h0
  rw [bitP_num m hm (by omega), Nat.zero_xor] at h1
  exact numW_zero m hm (crcK_zero _ (numW_lt m) h1)
end Go.Proofs.Ytnobepobalpccaa
