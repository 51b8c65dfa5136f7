/- The cyclic redundancy check in plain numbers. No program here. -/
import Derived.Test.YtnobepobalpccaaBase
namespace Go.Proofs.Ytnobepobalpccaa
open Go.RowKit
set_option linter.unusedVariables false

/-- one bit -/
def crc1 (r : Nat) : Nat := if 32768 ≤ r then (2 * r % 65536) ^^^ 4129 else 2 * r % 65536
def crcK : Nat → Nat → Nat
  | 0, r => r
  | k + 1, r => crc1 (crcK k r)
/-- one byte -/
def crcB (r : Nat) (c : UInt8) : Nat := crcK 8 (r ^^^ (c.toNat * 256))
def crcL (r : Nat) (l : List UInt8) : Nat := l.foldl crcB r
theorem xor_lt16 {a b : Nat} (h1 : a < 65536) (h2 : b < 65536) : a ^^^ b < 65536 := Nat.xor_lt_two_pow (n := 16) h1 h2
theorem crc1_lt (r : Nat) : crc1 r < 65536 := by
  unfold crc1
  split
  · exact xor_lt16 (by omega) (by omega)
  · omega
theorem crcK_lt {r : Nat} (h : r < 65536) (k : Nat) : crcK k r < 65536 := by
  cases k with
  | zero => exact h
  | succ k => exact crc1_lt _
theorem crcB_lt {r : Nat} (h : r < 65536) (c : UInt8) : crcB r c < 65536 := crcK_lt (xor_lt16 h (by have := c.toNat_lt; omega)) 8
theorem crcL_lt (l : List UInt8) : ∀ {r : Nat}, r < 65536 → crcL r l < 65536 := by
  induction l with
  | nil => intro r h; exact h
  | cons c l ih =>
    intro r h
    have e : crcL r (c :: l) = crcL (crcB r c) l := by rw [crcL, List.foldl_cons, ← crcL]
    rw [e]
    exact ih (crcB_lt h c)
theorem crcL_snoc (r : Nat) (l : List UInt8) (c : UInt8) : crcL r (l ++ [c]) = crcB (crcL r l) c := by simp [crcL]
theorem crcL_append (r : Nat) (l m : List UInt8) : crcL r (l ++ m) = crcL (crcL r l) m := by simp [crcL]

theorem i64_xor_nat (x y : Nat) (hx : x < 4611686018427387904) (hy : y < 4611686018427387904) : bits .xor .i64 (x : Int) (y : Int) = ((x ^^^ y : Nat) : Int) := by
  show IntKind.i64.wrap ((BitVec.ofInt 64 (x : Int) ^^^ BitVec.ofInt 64 (y : Int)).toNat : Int) = _
  rw [BitVec.toNat_xor, BitVec.toNat_ofInt, BitVec.toNat_ofInt]
  have e1 : ((x : Int) % ((2 ^ 64 : Nat) : Int)).toNat = x := by omega
  have e2 : ((y : Int) % ((2 ^ 64 : Nat) : Int)).toNat = y := by omega
  rw [e1, e2]
  have : x ^^^ y < 2 ^ 62 := Nat.xor_lt_two_pow hx hy
  rw [IntKind.wrap_i64]; omega
theorem i64_and_nat (x y : Nat) (hx : x < 4611686018427387904) (hy : y < 4611686018427387904) : bits .and .i64 (x : Int) (y : Int) = ((x &&& y : Nat) : Int) := by
  show IntKind.i64.wrap ((BitVec.ofInt 64 (x : Int) &&& BitVec.ofInt 64 (y : Int)).toNat : Int) = _
  rw [BitVec.toNat_and, BitVec.toNat_ofInt, BitVec.toNat_ofInt]
  have e1 : ((x : Int) % ((2 ^ 64 : Nat) : Int)).toNat = x := by omega
  have e2 : ((y : Int) % ((2 ^ 64 : Nat) : Int)).toNat = y := by omega
  rw [e1, e2]
  have : x &&& y ≤ x := Nat.and_le_left
  rw [IntKind.wrap_i64]; omega
theorem i64_or_nat (x y : Nat) (hx : x < 4611686018427387904) (hy : y < 4611686018427387904) : bits .or .i64 (x : Int) (y : Int) = ((x ||| y : Nat) : Int) := by
  show IntKind.i64.wrap ((BitVec.ofInt 64 (x : Int) ||| BitVec.ofInt 64 (y : Int)).toNat : Int) = _
  rw [BitVec.toNat_or, BitVec.toNat_ofInt, BitVec.toNat_ofInt]
  have e1 : ((x : Int) % ((2 ^ 64 : Nat) : Int)).toNat = x := by omega
  have e2 : ((y : Int) % ((2 ^ 64 : Nat) : Int)).toNat = y := by omega
  rw [e1, e2]
  have : x ||| y < 2 ^ 62 := Nat.or_lt_two_pow hx hy
  rw [IntKind.wrap_i64]; omega
theorem and_ffff (x : Nat) : x &&& 65535 = x % 65536 := Nat.and_two_pow_sub_one_eq_mod x 16
/-- the register is xored with a byte -/
theorem crc_in (r : Nat) (c : UInt8) (h : r < 65536) : bits .xor .i64 (r : Int) ((c.toNat : Int) * 256) = ((r ^^^ (c.toNat * 256) : Nat) : Int) := by
  have := i64_xor_nat r (c.toNat * 256) (by omega) (by have := c.toNat_lt; omega)
  rw [← this]; simp
/-- the register shifted out at the top -/
theorem crc_out (r : Nat) (h : r < 65536) (h2 : 32768 ≤ r) : bits .xor .i64 (bits .and .i64 ((r : Int) * 2) 65535) 4129 = (crc1 r : Int) := by
  have e1 := i64_and_nat (r * 2) 65535 (by omega) (by omega)
  have e2 := i64_xor_nat (r * 2 % 65536) 4129 (by omega) (by omega)
  rw [and_ffff] at e1
  have e3 : bits .and .i64 ((r : Int) * 2) 65535 = ((r * 2 % 65536 : Nat) : Int) := by rw [← e1]; simp
  rw [e3]
  have e4 : ((4129 : Nat) : Int) = 4129 := rfl
  rw [← e4, e2]
  unfold crc1
  rw [if_pos h2, Nat.mul_comm]
theorem crc_stay (r : Nat) (h2 : ¬ 32768 ≤ r) : (r : Int) * 2 = (crc1 r : Int) := by
  unfold crc1
  rw [if_neg h2]; omega
theorem crc_ref_out (r : Nat) (h : r < 65536) (h2 : 32768 ≤ r) : bits .xor .i64 ((r : Int) * 2 % 65536) 4129 = (crc1 r : Int) := by
  have e2 := i64_xor_nat (r * 2 % 65536) 4129 (by omega) (by omega)
  have e4 : ((4129 : Nat) : Int) = 4129 := rfl
  have e3 : (r : Int) * 2 % 65536 = ((r * 2 % 65536 : Nat) : Int) := by omega
  rw [e3, ← e4, e2]
  unfold crc1
  rw [if_pos h2, Nat.mul_comm]
theorem crc_ref_stay (r : Nat) (h2 : ¬ 32768 ≤ r) : (r : Int) * 2 % 65536 = (crc1 r : Int) := by
  unfold crc1
  rw [if_neg h2]; omega
end Go.Proofs.Ytnobepobalpccaa
