/- awake of the statements about packets; PacketSums. -/
import Derived.Test.YtoeibcpjmoekpaaPacketC
import Derived.Lib.SlBytesConst
namespace Go.Proofs.Ytoeibcpjmoekpaa
open Go.RowKit
set_option linter.unusedVariables false

def pk1 : Pkt := ⟨3, 1, 0, 0, 0, []⟩
theorem pk1_right : rightP pk1 := by
  refine ⟨?_, ?_, ?_, ?_⟩
  · simp only [badP, pk1]; decide
  · exact four_ok ⟨by decide, by decide⟩ ⟨by decide, by decide⟩ ⟨by decide, by decide⟩ ⟨by decide, by decide⟩
  · intro h; cases h
  · intro _; exact ⟨rfl, rfl⟩
theorem uintB_zero : uintB 0 = [0] := by rw [uintB, if_neg (by omega), show (0 : Int).toNat = 0 from rfl, leb_small (by omega)]; rfl
theorem uintB_one : uintB 1 = [1] := by rw [uintB, if_neg (by omega), show (1 : Int).toNat = 1 from rfl, leb_small (by omega)]; rfl
theorem pk1_len : (encP pk1).length = 8 := by
  have e : preP pk1 5 = [kindB pk1] ++ uintB 1 ++ uintB 0 ++ uintB 0 ++ uintB 0 ++ uintB 0 := rfl
  simp only [encP, sumB, List.length_append, e, uintB_zero, uintB_one]
  rfl
theorem sum19 : crcL 65535 [49, 50, 51, 52, 53, 54, 55, 56, 57] = 10673 := by kernel_rfl

theorem Rd_blk {W : World} {g : Nat} {C : Array Value} {e : TypeId} {fr : Nat × Nat} (h : W.heap[g]? = some (.cells C e fr)) : Rd W (some ⟨g, 0, none⟩) C.toList := fun j u hu => by
  refine ⟨_, rfl, ?_⟩
  have h2 : C[j]? = some u := by simpa using hu
  unfold Addr.add
  split
  · rename_i hz
    subst hz
    simp [World.cell?, h, h2]
  · simp [World.cell?, h, h2]
set_option maxHeartbeats 1000000 in
set_option maxRecDepth 100000 in
theorem awake33_any (w : World) : Calls Try.prog 13 #[] w fun e w' => e = .returned (.bool true) ∧ Ext w w' := by
  have kc := fun (w : World) (C : Array Value) (n c : Nat) => Lib.run_convert_bytes_const (P := Try.prog) w 22 5 C n c Try.underlying22 Try.underlying5
  go_enter Try.func13, Try.ntmps13
  go_wp2_with fail
  refine (Encode_any _ pk1 w ⟨_, rfl, InV.nil w⟩ (by simp [pk1])).mono ?_
  rintro e w1 ⟨y, er, rfl, hy, he⟩
  obtain ⟨_, rfl, ho⟩ | ⟨hn, _, _⟩ := hy
  · obtain ⟨A, c, rfl, _, _⟩ := ho.inV
    rw [pk1_len]
    go_wp2_with fail
    have hin : InB (w1.alloc (.cells #[.int .u8 49, .int .u8 50, .int .u8 51, .int .u8 52, .int .u8 53, .int .u8 54, .int .u8 55, .int .u8 56, .int .u8 57] 5 (9, 10))) (.slice (some ⟨w1.heap.size, 0, none⟩) 9 9) [49, 50, 51, 52, 53, 54, 55, 56, 57] :=
      ⟨_, 9, rfl, Nat.le_refl _, Rd_blk (heap_alloc_new w1 (.cells #[.int .u8 49, .int .u8 50, .int .u8 51, .int .u8 52, .int .u8 53, .int .u8 54, .int .u8 55, .int .u8 56, .int .u8 57] 5 (9, 10)))⟩
    refine (Sum_any _ _ _ hin (by decide)).mono ?_
    rintro e w3 ⟨rfl, rfl⟩
    rw [sum19]
    go_wp2
    go_ret
    exact ⟨rfl, he.alloc _⟩
  · exact absurd pk1_right hn

set_option maxRecDepth 100000 in
theorem sums_walk (x : Value) (l : List UInt8) (w : World) (hx : InB w x l) (hl : l.length ≤ 9223372036854775807) :
    Calls Try.prog 3 #[x] w fun e w' => e = .returned (.bool true) ∧ Ext w w' := by
  have hX := hx
  obtain ⟨A, c, rfl, _, hr⟩ := hx
  by_cases h : 3000 < l.length
  · have h' : (3000 : Int) < (l.length : Int) := by omega
    go_enter Try.func3, Try.ntmps3
    go_wp2_with fail
    refine (awake33_any w).mono ?_
    rintro e w1 ⟨rfl, he⟩
    go_wp2
    go_ret
    exact ⟨rfl, he⟩
  · have h' : ¬ (3000 : Int) < (l.length : Int) := by omega
    go_enter Try.func3, Try.ntmps3
    go_wp2_with fail
    refine (Sum_any _ l w hX (by omega)).mono ?_
    rintro e w1 ⟨rfl, rfl⟩
    go_wp2_with fail
    refine (refSum_any _ l w hX (by omega)).mono ?_
    rintro e w1 ⟨rfl, rfl⟩
    have hb : ((crcL 65535 l : Int) == (crcL 65535 l : Int)) = true := by simp
    go_wp2_with fail
    refine (awake33_any w).mono ?_
    rintro e w1 ⟨rfl, he⟩
    go_wp2
    go_ret
    exact ⟨rfl, he⟩
end Go.Proofs.Ytoeibcpjmoekpaa
