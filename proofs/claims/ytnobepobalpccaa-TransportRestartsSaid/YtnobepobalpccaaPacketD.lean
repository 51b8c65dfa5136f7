/- awake of the statements about packets; PacketSums. -/
import Derived.Test.YtnobepobalpccaaPacketC
import Derived.Lib.SlBytesConst
namespace Go.Proofs.Ytnobepobalpccaa
open Go.RowKit
set_option linter.unusedVariables false

def pk1 : Pkt := ⟨3, 1, 0, 0, 0, []⟩
theorem pk1_right : rightP pk1 := by
  refine ⟨?_, ?_, ?_, ?_⟩
  · simp only [badP, pk1]; decide
  · exact four_ok ⟨by decide, by decide⟩ ⟨by decide, by decide⟩ ⟨by decide, by decide⟩ ⟨by decide, by decide⟩
  · intro h; cases h
  · intro _; exact ⟨rfl, rfl⟩
theorem uintB_zero : uintB 0 = [0] := by rw [uintB, if_neg (by omega), show (0 : Int).toNat = 0 from rfl, leb_small (by omega)]; rfl
theorem uintB_one : uintB 1 = [1] := by rw [uintB, if_neg (by omega), show (1 : Int).toNat = 1 from rfl, leb_small (by omega)]; rfl
theorem pk1_len : (encP pk1).length = 8 := by
  have e : preP pk1 5 = [kindB pk1] ++ uintB 1 ++ uintB 0 ++ uintB 0 ++ uintB 0 ++ uintB 0 := rfl
  simp only [encP, sumB, List.length_append, e, uintB_zero, uintB_one]
  rfl
theorem sum19 : crcL 65535 [49, 50, 51, 52, 53, 54, 55, 56, 57] = 10673 := by kernel_rfl

theorem Rd_blk {W : World} {g : Nat} {C : Array Value} {e : TypeId} {fr : Nat × Nat} (h : W.heap[g]? = some (.cells C e fr)) : Rd W (some ⟨g, 0, none⟩) C.toList := fun j u hu => by
  refine ⟨_, rfl, ?_⟩
  have h2 : C[j]? = some u := by simpa using hu
  unfold Addr.add
  split
  · rename_i hz
    subst hz
    simp [World.cell?, h, h2]
  · simp [World.cell?, h, h2]
end Go.Proofs.Ytnobepobalpccaa
