/- Plain laws of lists of numbers: what is written is read again, and what is read is what would be written. -/
import Derived.Test.YtoeibcpjmoekpaaMsgD
namespace Go.Proofs.Ytoeibcpjmoekpaa
open Go.RowKit
set_option linter.unusedVariables false

theorem zig_unzig (u : Nat) : zig (unzig u) = u := by
  unfold unzig zig
  split <;> split <;> omega
theorem intR_inv {l : List UInt8} {p : Int} (h : (intR l p).2.2 = 0) : 0 ≤ p ∧ p < (intR l p).2.1 ∧ (intR l p).2.1 ≤ l.length ∧
    l.drop p.toNat = leb (zig (intR l p).1) ++ l.drop (intR l p).2.1.toNat := by
  by_cases hp : p < 0 ∨ l.length < p
  · simp only [intR, rdAt, if_pos hp] at h
    cases h
  · have hpl : p.toNat ≤ l.length := by omega
    rcases hr : rd 9 1 (l.drop p.toNat) 0 0 with ⟨v, n, er⟩
    have hat : rdAt 9 1 l ((p.toNat : Nat) : Int) = _ := rdAt_of hpl hr
    rw [show ((p.toNat : Nat) : Int) = p by omega] at hat
    have e1 : (intR l p).1 = unzig v := by simp [intR, hat]
    have e2 : (intR l p).2.2 = (er : Int) := by simp [intR, hat]
    rw [e2] at h
    have her : er = 0 := by omega
    subst her
    obtain ⟨x, hv, hn, ht, _⟩ := rd_inv 9 1 _ 0 0 v n hr (.inl rfl)
    have hc := rd_count 9 1 (l.drop p.toNat) 0 0 (by rw [hr])
    rw [hr] at hc
    simp only [List.length_drop] at hc
    have e3 : (intR l p).2.1 = p + (n : Int) := by simp [intR, hat]
    have hvx : v = x := by simpa using hv
    subst hvx
    rw [Nat.sub_zero] at ht
    refine ⟨by omega, by omega, by omega, ?_⟩
    rw [e1, e3, zig_unzig, ← ht]
    have : (p + (n : Int)).toNat = p.toNat + n := by omega
    rw [this, ← List.drop_drop, List.take_append_drop]
theorem numsR_intsB : ∀ (l : List Int) (pre rest : List UInt8), (∀ x ∈ l, I64 x) → numsR (pre ++ (intsB l ++ rest)) l.length (pre.length : Int) = some (l, (pre.length : Int) + ((intsB l).length : Int)) := by
  intro l
  induction l with
  | nil => intro pre rest _; simp [numsR, intsB]
  | cons x l ih =>
    intro pre rest h
    have hx := h x (by simp)
    rw [intsB_cons, List.length_cons, numsR, List.append_assoc, intR_leb hx.1 hx.2]
    have h2 := ih (pre ++ leb (zig x)) rest (fun y hy => h y (by simp [hy]))
    rw [List.append_assoc, List.length_append, Int.natCast_add] at h2
    simp only [if_true]
    rw [h2]
    simp only [Option.map_some, List.length_append, Int.natCast_add, Option.some.injEq, Prod.mk.injEq, true_and]
    omega
theorem uintB_nat (n : Nat) : uintB (n : Int) = leb n := by
  unfold uintB
  rw [if_neg (by omega), Int.toNat_natCast]
theorem listR_listB (l : List Int) (pre rest : List UInt8) (h : ∀ x ∈ l, I64 x) (most : Int) (hm : (l.length : Int) ≤ most) (hl : l.length < 9223372036854775808) : listR (pre ++ (listB l ++ rest)) most (pre.length : Int) = some (l, (pre.length : Int) + ((listB l).length : Int)) := by
  unfold listR listB
  rw [uintB_nat, List.append_assoc, uintR_leb hl]
  simp only [true_and]
  rw [if_pos hm, Int.toNat_natCast]
  have h2 := numsR_intsB l (pre ++ leb l.length) rest h
  rw [List.append_assoc, List.length_append, Int.natCast_add] at h2
  rw [h2]
  simp only [List.length_append, Int.natCast_add, Option.some.injEq, Prod.mk.injEq, true_and]
  omega
theorem exR_listB (l : List Int) (pre rest : List UInt8) (h : ∀ x ∈ l, I64 x) (n : Int) (hn : (l.length : Int) = n) (hl : l.length < 9223372036854775808) : exR (pre ++ (listB l ++ rest)) n (pre.length : Int) = some (l, (pre.length : Int) + ((listB l).length : Int)) := by
  unfold exR
  rw [listR_listB l pre rest h n (by omega) hl]
  simp [hn]
theorem numsR_inv (b : List UInt8) : ∀ (n : Nat) (p : Int) (l : List Int) (q : Int), numsR b n p = some (l, q) → 0 ≤ p → p ≤ b.length → p ≤ q ∧ q ≤ b.length ∧ b.drop p.toNat = intsB l ++ b.drop q.toNat := by
  intro n
  induction n with
  | zero =>
    intro p l q h h0 h1
    simp only [numsR, Option.some.injEq, Prod.mk.injEq] at h
    obtain ⟨rfl, rfl⟩ := h
    exact ⟨Int.le_refl _, h1, by simp [intsB]⟩
  | succ n ih =>
    intro p l q h h0 h1
    rw [numsR] at h
    split at h
    · rename_i he
      obtain ⟨_, i2, i3, i4⟩ := intR_inv he
      rcases h2 : numsR b n (intR b p).2.1 with _ | ⟨l2, q2⟩
      · rw [h2] at h; cases h
      · rw [h2] at h
        simp only [Option.map_some, Option.some.injEq, Prod.mk.injEq] at h
        obtain ⟨rfl, rfl⟩ := h
        obtain ⟨j1, j2, j3⟩ := ih _ _ _ h2 (by omega) i3
        refine ⟨by omega, j2, ?_⟩
        rw [i4, j3, intsB_cons, List.append_assoc]
    · cases h
theorem listR_inv {b : List UInt8} {most p q : Int} {l : List Int} (h : listR b most p = some (l, q)) : 0 ≤ p ∧ p ≤ q ∧ q ≤ b.length ∧ (l.length : Int) ≤ most ∧ (∀ x ∈ l, I64 x) ∧ b.drop p.toNat = listB l ++ b.drop q.toNat := by
  unfold listR at h
  split at h
  · rename_i he
    obtain ⟨h1, h2, h3⟩ := uintR_inv he.1
    have h4 := uintR_next he.1
    obtain ⟨h5, h6, h7⟩ := numsR_inv b _ _ _ _ h (by omega) h4.2.2
    obtain ⟨h8, h9⟩ := numsR_len b _ _ _ h
    simp only at h8 h9
    refine ⟨h4.1, by omega, h6, by omega, h9, ?_⟩
    rw [h3, h7, listB, h8, uintB_nat, List.append_assoc]
  · cases h
theorem drop_all {b x y : List UInt8} {p q : Int} (h : b.drop p.toNat = x ++ b.drop q.toNat) (hq : q = b.length) : b.drop p.toNat = x := by
  rw [h, hq]; simp

/-- what a decoder of commands answers -/
def cmd0 : Cmd := ⟨0, 0, 0, 0, []⟩
structure Cmd.Enc (c : Cmd) (b : List UInt8) : Prop where
  ok : c.Ok
  len : c.words.length ≤ 128
  eq : encC c = b
def DecCIs (b : List UInt8) (c : Cmd) (er : Int) : Prop := (er = 0 ∧ c.Enc b) ∨ (er = 4 ∧ c = cmd0 ∧ ¬ ∃ c' : Cmd, c'.Enc b)
theorem encC_read {c : Cmd} {b : List UInt8} (h : c.Enc b) : exR b 4 0 = some (c.head, ((listB c.head).length : Int)) ∧ listR b 4 0 = some (c.head, ((listB c.head).length : Int)) ∧ listR b 128 ((listB c.head).length : Int) = some (c.words, (b.length : Int)) := by
  have h1 := exR_listB c.head [] (listB c.words) h.ok.head 4 rfl (by simp [Cmd.head])
  have h2 := listR_listB c.words (listB c.head) [] h.ok.words 128 (by have := h.len; omega) (by have := h.len; omega)
  have h3 := listR_listB c.head [] (listB c.words) h.ok.head 4 (by simp [Cmd.head]) (by simp [Cmd.head])
  rw [List.append_nil] at h2
  have e : listB c.head ++ listB c.words = b := h.eq
  rw [List.nil_append, e] at h1 h3
  rw [e] at h2
  refine ⟨by simpa using h1, by simpa using h3, ?_⟩
  rw [h2, ← e]
  simp
theorem enc_one {c d : Cmd} {b : List UInt8} (h : c.Enc b) (k : d.Enc b) : c = d := by
  obtain ⟨h1, _, h2⟩ := encC_read h
  obtain ⟨k1, _, k2⟩ := encC_read k
  rw [h1] at k1
  simp only [Option.some.injEq, Prod.mk.injEq] at k1
  obtain ⟨e1, e2⟩ := k1
  rw [← e2, h2] at k2
  simp only [Option.some.injEq, Prod.mk.injEq] at k2
  simp only [Cmd.head, List.cons.injEq] at e1
  exact cmd_eq e1.1 e1.2.1 e1.2.2.1 e1.2.2.2.1 k2.1
theorem DecCIs.one {b : List UInt8} {c d : Cmd} {x y : Int} (h : DecCIs b c x) (k : DecCIs b d y) : c = d ∧ x = y := by
  rcases h with ⟨rfl, h⟩ | ⟨rfl, rfl, h⟩ <;> rcases k with ⟨rfl, k⟩ | ⟨rfl, rfl, k⟩
  · exact ⟨enc_one h k, rfl⟩
  · exact absurd ⟨_, h⟩ k
  · exact absurd ⟨_, k⟩ h
  · exact ⟨rfl, rfl⟩
end Go.Proofs.Ytoeibcpjmoekpaa
