/- The lists of the statements about location lists: which may be encoded (plain). -/
import Derived.Test.YtokmbdeafjmcjaaLcL
import Derived.Test.YtokmbdeafjmcjaaLcG
namespace Go.Proofs.Ytokmbdeafjmcjaa
open Go.RowKit
set_option linter.unusedVariables false
set_option linter.unusedSimpArgs false

theorem EncP_len (l : List PTab) : (EncP l).length ≤ 60000 := by
  unfold EncP
  split
  · split
    · assumption
    · simp
  · simp
theorem uintB_small {n : Nat} (h : n < 128) : uintB (n : Int) = [UInt8.ofNat n] := by
  unfold uintB
  rw [if_neg (by omega)]
  simpa using leb_small h
/-! the sanity check -/
def tab19 : PTab := ⟨0, 9, [⟨0, 1, 0, 2, 6, [⟨2, 3, 5⟩, ⟨1, 0, 0⟩]⟩]⟩
def bs19 : List UInt8 := [1, 0, 9, 1, 2, 4, 0, 1, 0, 2, 10, 3, 10, 1]
theorem okRngs_one {lo hi : Int} {r : Rng} (h1 : okNum lo hi r) (h2 : okPl r) : okRngs lo hi [r] := by
  intro i h
  have : i = 0 := by simp only [List.length_cons, List.length_nil] at h; omega
  subst this
  exact ⟨h1, h2, by simp, by simp [endOf_nil]⟩
theorem tab19_right : RightP [tab19] := by
  refine ⟨by simp, ⟨?_, ?_, trivial⟩, by simp [rngsN, tab19]⟩
  · simp [okP, tab19]
  · refine okRngs_one ?_ ⟨by simp, by simp, ?_⟩
    · simp [okNum, tab19]
    · simp [okPlc]
theorem tab19_adds : AddsIn [tab19] := by
  intro t ht r hr p hp
  simp only [List.mem_singleton] at ht
  subst ht
  simp only [tab19, List.mem_singleton] at hr
  subst hr
  simp only [List.mem_cons, List.not_mem_nil, or_false] at hp
  rcases hp with rfl | rfl <;> simp [I64]
theorem tab19_enc : encPs [tab19] = bs19 := by
  have u := fun (n : Nat) (h : n < 128) => uintB_small h
  have e0 : uintB 0 = [0] := u 0 (by omega)
  have e1 : uintB 1 = [1] := u 1 (by omega)
  have e2 : uintB 2 = [2] := u 2 (by omega)
  have e3 : uintB 3 = [3] := u 3 (by omega)
  have e4 : uintB 4 = [4] := u 4 (by omega)
  have e9 : uintB 9 = [9] := u 9 (by omega)
  have z5 : leb (zig 5) = [10] := leb_small (u := 10) (by omega)
  simp [encPs, numB, encPT, encRngs, encRng, encPl, pkB, pnB, paB, tab19, bs19, e0, e1, e2, e3, e4, e9, z5]
theorem tab19_dec : decP bs19 = .ok [tab19] := by
  have h1 : cntR 8 bs19 0 = .ok (1, 1) := by kernel_rfl
  have h2 : listsR bs19 1 1 = .ok ([tab19], 14) := by kernel_rfl
  unfold decP
  rw [if_neg (by decide), h1]
  simp only [Int.toNat_one, h2]
  rw [if_neg]
  rintro (h | h)
  · simp [bs19] at h
  · exact h tab19_right
/-! two ranges -/
def rngO (pc lo hi : Int) : Rng := ⟨0, 0, pc, lo, hi, [⟨3, 4095, 0⟩]⟩
def tabO (x n y m pc : Int) : PTab := ⟨0, 60, [rngO 0 x (x + n), rngO pc (x + y) (x + y + m)]⟩
theorem tabO_adds (x n y m pc : Int) : AddsIn [tabO x n y m pc] := by
  intro t ht r hr p hp
  simp only [List.mem_singleton] at ht
  subst ht
  simp only [tabO, List.mem_cons, List.not_mem_nil, or_false] at hr
  rcases hr with rfl | rfl <;> simp only [rngO, List.mem_singleton] at hp <;> subst hp <;> simp [I64]
theorem tabO_I {x n y m pc : Int} : (tabO x n y m pc).I := ⟨by simp [tabO], by simp [tabO], by simp [tabO], fun r hr => by
  simp only [tabO, List.mem_cons, List.not_mem_nil, or_false] at hr
  rcases hr with rfl | rfl <;> simp [rngO]⟩
theorem tabO_right {x n y m pc : Int} (hx : 0 ≤ x ∧ x < 20) (hn : 1 ≤ n ∧ n ≤ 10) (hy : 0 ≤ y ∧ y < 20) (hm : 1 ≤ m ∧ m ≤ 10) (hp : pc = 0 ∨ pc = 1) : RightP [tabO x n y m pc] ↔ (n ≤ y ∨ pc = 1) := by
  have hpl : ∀ pc lo hi, okPl (rngO pc lo hi) := fun pc lo hi => ⟨by simp [rngO], by simp [rngO], by simp [rngO, okPlc]⟩
  have hn1 : okNum 0 60 (rngO 0 x (x + n)) := by simp only [okNum, rngO]; omega
  have hn2 : okNum 0 60 (rngO pc (x + y) (x + y + m)) := by simp only [okNum, rngO]; omega
  constructor
  · intro h
    have h1 := h.2.1.2.1 1 (by simp [tabO])
    simp only [tabO, List.take_succ_cons, List.take_zero, List.getElem_cons_succ, List.getElem_cons_zero] at h1
    rcases hp with rfl | rfl
    · left
      have h2 := h1.2.2.2 (x + n) (by
        have := endOf_snoc [] (rngO 0 x (x + n)) (pcOf (rngO 0 (x + y) (x + y + m)))
        rw [List.nil_append] at this
        rw [this, if_pos (show pcOf (rngO 0 x (x + n)) = pcOf (rngO 0 (x + y) (x + y + m)) from rfl)]
        rfl)
      simp only [rngO] at h2
      omega
    · right; rfl
  · intro h
    refine ⟨by simp, ⟨?_, ?_, trivial⟩, by simp [rngsN, tabO]⟩
    · simp [okP, tabO]
    · intro i hi
      have hi' : i < 2 := by simpa [tabO] using hi
      match i, hi' with
      | 0, _ => exact ⟨hn1, hpl _ _ _, by simp, by simp [endOf_nil]⟩
      | 1, _ =>
        refine ⟨hn2, hpl _ _ _, fun p hp2 => ?_, fun e he => ?_⟩
        · simp only [tabO, List.take_succ_cons, List.take_zero, List.getLast?_singleton, Option.some.injEq] at hp2
          subst hp2
          show x < x + y ∨ (x = x + y ∧ ((0 : Int) < 0 ∨ ((0 : Int) = 0 ∧ ((0 : Int) < 0 ∨ ((0 : Int) = 0 ∧ 0 < pc)))))
          omega
        · simp only [tabO, List.take_succ_cons, List.take_zero, List.getElem_cons_succ, List.getElem_cons_zero] at he ⊢
          have h3 := endOf_snoc [] (rngO 0 x (x + n)) (pcOf (rngO pc (x + y) (x + y + m)))
          rw [List.nil_append] at h3
          rw [h3] at he
          split at he
          · rename_i h4
            have h5 : (0 : Int) = pc := by
              simp only [pcOf, rngO, Prod.mk.injEq] at h4
              exact h4.2.2
            simp only [Option.some.injEq, rngO] at he ⊢
            omega
          · cases he
theorem tabO_len {x n y m pc : Int} (hx : 0 ≤ x ∧ x < 20) (hn : 1 ≤ n ∧ n ≤ 10) (hy : 0 ≤ y ∧ y < 20) (hm : 1 ≤ m ∧ m ≤ 10) (hp : pc = 0 ∨ pc = 1) : 0 < (encPs [tabO x n y m pc]).length ∧ (encPs [tabO x n y m pc]).length ≤ 60000 := by
  have e1 : numB [1] = [1] := by rw [show numB [(1 : Int)] = uintB 1 by simp [numB]]; exact uintB_small (n := 1) (by omega)
  have hpl : ∀ pc lo hi, ((rngO pc lo hi).places.flatMap encPl).length ≤ 21 * (rngO pc lo hi).places.length := fun pc lo hi => encPls_len (fun p hp => by
    simp only [rngO, List.mem_singleton] at hp
    subst hp
    exact ⟨by simp [okPlc], by simp [I64]⟩)
  have h1 := hpl 0 x (x + n)
  have h2 := hpl pc (x + y) (x + y + m)
  have n1 := numB_len (vs := [(0 : Int), 60, 2]) (by simp)
  have n2 := numB_len (vs := [x - 0, x + n - x, 0, 0, 0, 1]) (by simp only [List.mem_cons, List.not_mem_nil, or_false, forall_eq_or_imp, forall_eq]; omega)
  have n3 := numB_len (vs := [x + y - x, x + y + m - (x + y), 0, 0, pc, 1]) (by simp only [List.mem_cons, List.not_mem_nil, or_false, forall_eq_or_imp, forall_eq]; omega)
  have e : encPs [tabO x n y m pc] = numB [1] ++ (numB [(0 : Int), 60, 2] ++ ((numB [x - 0, x + n - x, 0, 0, 0, 1] ++ (rngO 0 x (x + n)).places.flatMap encPl) ++ ((numB [x + y - x, x + y + m - (x + y), 0, 0, pc, 1] ++ (rngO pc (x + y) (x + y + m)).places.flatMap encPl) ++ []))) := by
    simp [encPs, encPT, encRngs, encRng, tabO, rngO]
  rw [e, e1]
  simp only [List.length_append, List.length_cons, List.length_nil] at *
  have l1 : (rngO 0 x (x + n)).places.length = 1 := rfl
  have l2 : (rngO pc (x + y) (x + y + m)).places.length = 1 := rfl
  omega
theorem tabO_enc {x n y m pc : Int} (hx : 0 ≤ x ∧ x < 20) (hn : 1 ≤ n ∧ n ≤ 10) (hy : 0 ≤ y ∧ y < 20) (hm : 1 ≤ m ∧ m ≤ 10) (hp : pc = 0 ∨ pc = 1) : 0 < (EncP [tabO x n y m pc]).length ↔ (n ≤ y ∨ pc = 1) := by
  have h1 := tabO_right hx hn hy hm hp
  have h2 := tabO_len hx hn hy hm hp
  unfold EncP
  by_cases h : RightP [tabO x n y m pc]
  · rw [if_pos h, if_pos h2.2]
    exact ⟨fun _ => h1.1 h, fun _ => h2.1⟩
  · rw [if_neg h]
    exact ⟨fun h3 => by simp at h3, fun h3 => absurd (h1.2 h3) h⟩
end Go.Proofs.Ytokmbdeafjmcjaa
