/- Contracts of the reading functions of the reference of layer 1. -/
import Derived.Test.YtnobepobalpccaaWireD
namespace Go.Proofs.Ytnobepobalpccaa
open Go.RowKit

theorem join7r (u x k : Nat) (hu : u < 2 ^ (7 * k)) (hk : k ≤ 8 ∨ (k = 9 ∧ x ≤ 1)) :
    bits .or .u64 (u : Int) (IntKind.u64.wrap ((x : Int) % 128 * 2 ^ (7 * k))) = ((u + x % 128 * 2 ^ (7 * k) : Nat) : Int) := by
  have h := join7 u (x % 128) k hu (by omega) (by omega)
  have h1 : bits .and .u8 ((x % 128 : Nat) : Int) 127 = ((x % 128 : Nat) : Int) := by
    have := u8_and_nat (x % 128) 127 (by omega) (by omega)
    rw [nat_mask7, Nat.mod_mod] at this
    exact this
  rw [h1, wrap_u64 ((x % 128 : Nat) : Int), show ((x % 128 : Nat) : Int) % 18446744073709551616 = (x : Int) % 128 by omega, Nat.mod_mod] at h
  exact h

end Go.Proofs.Ytnobepobalpccaa
