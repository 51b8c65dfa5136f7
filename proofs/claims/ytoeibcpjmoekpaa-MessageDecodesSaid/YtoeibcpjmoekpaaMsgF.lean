/- The sanity check of the statements about messages; MessageCommands. -/
import Derived.Test.YtoeibcpjmoekpaaMsgE
namespace Go.Proofs.Ytoeibcpjmoekpaa
open Go.RowKit
set_option linter.unusedVariables false

def cmdA : Cmd := ⟨2, 0, 0, 0, []⟩
theorem leb_one (n : Nat) (h : n < 128) : (leb n).length = 1 := by rw [leb_small h]; rfl
theorem cmdA_len : (encC cmdA).length = 6 := by
  simp only [encC, listB, Cmd.head, cmdA, intsB, List.flatMap_cons, List.flatMap_nil, List.length_append, List.length_nil, List.length_cons]
  have e1 : uintB ((0 + 1 + 1 + 1 + 1 : Nat) : Int) = leb 4 := uintB_nat 4
  have e2 : uintB ((0 : Nat) : Int) = leb 0 := uintB_nat 0
  rw [e1, e2, leb_one 4 (by omega), leb_one 0 (by omega), leb_one (zig 2) (by decide), leb_one (zig 0) (by decide)]
theorem cmdA_ok : cmdA.Ok := ⟨by
  intro x hx
  simp only [Cmd.head, cmdA, List.mem_cons, List.not_mem_nil, or_false] at hx
  rcases hx with rfl | rfl | rfl | rfl <;> exact ⟨by omega, by omega⟩, by simp [cmdA]⟩
theorem dec_own {c d : Cmd} {er : Int} (hc : c.Ok) (hl : c.words.length ≤ 128) (h : DecCIs (encC c) d er) : d = c ∧ er = 0 := by
  rcases h with ⟨rfl, h⟩ | ⟨rfl, rfl, h⟩
  · exact ⟨enc_one h ⟨hc, hl, rfl⟩, rfl⟩
  · exact absurd ⟨c, hc, hl, rfl⟩ h
theorem encC_len {c : Cmd} (hc : c.Ok) (hl : c.words.length ≤ 128) : (encC c).length ≤ 2000 := by
  have h1 := listB_len c.head hc.head (by simp [Cmd.head])
  have h2 := listB_len c.words hc.words (by omega)
  have h3 : c.head.length = 4 := rfl
  simp only [encC, List.length_append]
  omega

set_option maxHeartbeats 400000 in
set_option maxRecDepth 100000 in
theorem awake36_any (w : World) : Calls Try.prog 16 #[] w fun e w' => e = .returned (.bool true) ∧ Ext w w' := by
  go_enter Try.func16, Try.ntmps16
  go_wp2_with fail
  refine (EncodeCommand_any _ cmdA w ⟨_, rfl, InV.nil w⟩ cmdA_ok (by simp [cmdA])).mono ?_
  rintro e w1 ⟨y, er, rfl, hy, he⟩
  obtain ⟨_, rfl, ho⟩ | ⟨hn, _, _⟩ := hy
  rotate_left
  · simp [cmdA] at hn
  have hin := ho.inV
  obtain ⟨A, c, rfl, _, _⟩ := id hin
  have HD : Hid (∀ d er, DecCIs (encC cmdA) d er → d = ⟨2, 0, 0, 0, []⟩ ∧ er = 0) := Lib.hid fun d er h => dec_own cmdA_ok (by simp) h
  have HL := Lib.hid cmdA_len
  generalize encC cmdA = en at *
  go_wp2_with fail
  refine (DecodeCommand_any _ en w1 hin (by have := HL.out; omega)).mono ?_
  rintro e w2 ⟨v, d, er, rfl, hd, ⟨y2, rfl, hy2⟩, he2⟩
  obtain ⟨rfl, rfl⟩ := HD.out _ _ hd
  obtain ⟨Y, cy, rfl, _, _⟩ := hy2.inV
  clear hd HD
  simp only [List.length_nil]
  rw [HL.out]
  go_wp2_with fail
  go_ret
  exact ⟨rfl, (he.trans he2).alloc _⟩
end Go.Proofs.Ytoeibcpjmoekpaa
