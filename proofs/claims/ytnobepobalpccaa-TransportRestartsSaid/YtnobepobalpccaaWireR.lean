/- Contracts of the writing functions of the reference of layer 1, and of the comparison of two lists of bytes. -/
import Derived.Test.YtnobepobalpccaaWireA
namespace Go.Proofs.Ytnobepobalpccaa
open Go.RowKit

theorem own_empty (w : World) (z : Array Value) (hz : z.size = 0) : OwnB w.heap.size (w.alloc (.cells z 5)) (.slice (some ⟨w.heap.size, 0, none⟩) 0 0) [] :=
  World.ownsRow_made w z 0 (Nat.le_refl _) (by simp only [maxLen]; omega) (by simp [hz])

theorem zig_neg2 {v : Int} (h0 : v < 0) (h1 : -9223372036854775808 ≤ v) : bits .xor .u64 IntKind.u64.max (IntKind.u64.wrap (IntKind.u64.wrap v * 2)) = ((zig v : Nat) : Int) := by
  rw [wrap_u64, wrap_u64, show v % 18446744073709551616 = v + 18446744073709551616 by omega, show (v + 18446744073709551616) * 2 % 18446744073709551616 = 2 * v + 18446744073709551616 by omega, u64_notI _ (by omega) (by omega)]
  unfold zig
  rw [if_pos h0]; omega

theorem take_step {α : Type} {l m : List α} {k : Nat} (h : l.take k = m.take k) (h1 : k < l.length) (h2 : k < m.length) (h3 : l[k] = m[k]) : l.take (k + 1) = m.take (k + 1) := by
  rw [List.take_succ_eq_append_getElem h1, List.take_succ_eq_append_getElem h2, h, h3]

end Go.Proofs.Ytnobepobalpccaa
