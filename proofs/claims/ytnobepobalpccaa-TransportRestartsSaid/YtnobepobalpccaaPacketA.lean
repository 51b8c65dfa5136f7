/- The contracts of packet.Sum and of the reference's Sum. -/
import Derived.Test.YtnobepobalpccaaProg
import Derived.Test.YtnobepobalpccaaCrc
import Derived.Test.YtnobepobalpccaaWireD
namespace Go.Proofs.Ytnobepobalpccaa
open Go.RowKit
set_option linter.unusedVariables false

theorem crc_take (l : List UInt8) {k : Nat} (h : k < l.length) : crcL 65535 (l.take (k + 1)) = crcB (crcL 65535 (l.take k)) l[k] := by
  rw [List.take_succ_eq_append_getElem h, crcL_snoc]

set_option maxRecDepth 100000 in
theorem Sum_any (x : Value) (l : List UInt8) (w : World) (hx : InB w x l) (hl : l.length ≤ 4294967296) :
    Calls Try.prog 26 #[x] w fun e w' => e = .returned (.int .i64 (crcL 65535 l : Int)) ∧ w = w' := by
  obtain ⟨A, c, rfl, _, hr⟩ := hx
  go_enter Try.func26, Try.ntmps26
  go_wp2_with fail
  go_loop [3, 8] (fun r i => ∃ k : Nat, k ≤ l.length ∧ i = .int .i64 (k : Int) ∧ r = .int .i64 (crcL 65535 (l.take k) : Int)) (fun _ i => l.length - (intOf i).toNat)
  case atStart => exact ⟨0, Nat.zero_le _, rfl, rfl⟩
  case round =>
    obtain ⟨k, hk, rfl, rfl⟩ := hrel
    have hlt16 := crcL_lt (l.take k) (r := 65535) (by omega)
    by_cases hlt : k < l.length
    · obtain ⟨b, off, rfl, hc⟩ := hr.byte hlt
      have HS := Lib.hid (crc_take l hlt)
      have hi : (k : Int) < (l.length : Int) := by omega
      generalize l[k] = cb at *
      have hcb := cb.toNat_lt
      have HI := Lib.hid (crc_in (crcL 65535 (l.take k)) cb hlt16)
      generalize crcL 65535 (l.take k) = r0 at *
      have hr1 : r0 ^^^ (cb.toNat * 256) < 65536 := xor_lt16 hlt16 (by omega)
      have HB : Hid (crcB r0 cb = crcK 8 (r0 ^^^ (cb.toNat * 256))) := Lib.hid rfl
      go_wp2_with fail
      rw [HI.out]
      clear HI
      generalize r0 ^^^ (cb.toNat * 256) = r1 at *
      go_loop [3, 17] (fun r i => ∃ j : Nat, j ≤ 8 ∧ i = .int .i64 (j : Int) ∧ r = .int .i64 (crcK j r1 : Int)) (fun _ i => 8 - (intOf i).toNat)
      case atStart => exact ⟨0, Nat.zero_le _, rfl, rfl⟩
      case round =>
        obtain ⟨j, hj, rfl, rfl⟩ := hrel
        have hk16 := crcK_lt hr1 j
        by_cases hj8 : j < 8
        · have HN : Hid (crcK (j + 1) r1 = crc1 (crcK j r1)) := Lib.hid rfl
          have hj' : (j : Int) < 8 := by omega
          generalize crcK j r1 = r2 at *
          by_cases ht : 32768 ≤ r2
          · have HO := Lib.hid (crc_out r2 hk16 ht)
            go_wp2_with fail
            go_round
            case rel => exact ⟨j + 1, by omega, by go_num, by rw [HN.out, ← HO.out]⟩
            case measure => simp [intOf]; omega
          · have HO := Lib.hid (crc_stay r2 ht)
            go_wp2_with fail
            go_round
            case rel => exact ⟨j + 1, by omega, by go_num, by rw [HN.out, ← HO.out]⟩
            case measure => simp [intOf]; omega
        · obtain rfl : j = 8 := by omega
          go_wp2_with fail
          go_round
          case rel => exact ⟨k + 1, by omega, by go_num, by rw [HS.out, HB.out]⟩
          case measure => simp [intOf]; omega
    · go_wp2_with fail
      go_ret
      exact ⟨by rw [List.take_of_length_le (by omega)]; rfl, rfl⟩

end Go.Proofs.Ytnobepobalpccaa
