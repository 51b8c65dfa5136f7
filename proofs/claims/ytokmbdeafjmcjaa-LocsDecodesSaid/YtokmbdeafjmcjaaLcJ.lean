/- What bytes of location lists are decoded to (plain). -/
import Derived.Test.YtokmbdeafjmcjaaLcI
import Derived.Test.YtokmbdeafjmcjaaCfH
namespace Go.Proofs.Ytokmbdeafjmcjaa
open Go.RowKit
set_option linter.unusedVariables false
set_option linter.unusedSimpArgs false

def plcsR (b : List UInt8) : Nat → Int → Except Int (List Plc × Int)
  | 0, p => .ok ([], p)
  | n + 1, p => match plcR b p with
    | .error e => .error e
    | .ok (x, q) => preR [x] (plcsR b n q)
def rngK (b : List UInt8) (c v k lo hi q : Int) : Except Int (Rng × Int) :=
  match cntR 40 b q with
  | .error e => .error e
  | .ok (m, q2) => match plcsR b m.toNat q2 with
    | .error e => .error e
    | .ok (ps, q3) => .ok (⟨c, v, k, lo, hi, ps⟩, q3)
def rngR (b : List UInt8) (last p : Int) : Except Int (Rng × Int) :=
  match numsR b 5 p with
  | .ok ([lo, hi, c, v, k], q) => rngK b c v k (lo + last) (hi + (lo + last)) q
  | .error e => .error e
  | _ => .error 0
def rngsR (b : List UInt8) : Nat → Int → Int → Except Int (List Rng × Int)
  | 0, _, p => .ok ([], p)
  | n + 1, last, p => match rngR b last p with
    | .error e => .error e
    | .ok (r, q) => preR [r] (rngsR b n r.lo q)
def listR' (b : List UInt8) (p : Int) : Except Int (PTab × Int) :=
  match numsR b 2 p with
  | .ok ([lo, hi], p1) => match cntR 8000 b p1 with
    | .error e => .error e
    | .ok (n, p2) => match rngsR b n.toNat lo p2 with
      | .error e => .error e
      | .ok (rs, p3) => .ok (⟨lo, hi, rs⟩, p3)
  | .error e => .error e
  | _ => .error 0
def listsR (b : List UInt8) : Nat → Int → Except Int (List PTab × Int)
  | 0, p => .ok ([], p)
  | n + 1, p => match listR' b p with
    | .error e => .error e
    | .ok (t, q) => preR [t] (listsR b n q)
open Classical in
noncomputable def decP (b : List UInt8) : Except Int (List PTab) :=
  if 60000 < b.length then .error 5 else match cntR 8 b 0 with
    | .error e => .error e
    | .ok (n, p) => match listsR b n.toNat p with
      | .error e => .error e
      | .ok (l, q) => if q < b.length ∨ ¬ RightP l then .error 4 else .ok l
theorem list5 {l : List Int} (h : l.length = 5) : ∃ a c d e f, l = [a, c, d, e, f] := by
  match l, h with
  | [a, c, d, e, f], _ => exact ⟨a, c, d, e, f, rfl⟩
theorem cntR_pos {m : Int} {b : List UInt8} {p v q : Int} (h : cntR m b p = .ok (v, q)) : 0 ≤ p ∧ p < q := by
  unfold cntR at h
  split at h
  · cases h
  · rename_i h1
    have h1' : (uintR b p).2.2 = 0 := by simpa using h1
    split at h
    · cases h
    · injection h with h
      injection h with h3 h4
      have h6 := uintR_next h1'
      omega
theorem intR_rng (b : List UInt8) (p : Int) : I64 (intR b p).1 := by
  have h := rdAt_lt9 b p
  unfold intR I64 unzig
  simp only
  split <;> omega
theorem intR_fwd {l : List UInt8} {p : Int} (h : (intR l p).2.2 = 0) : 0 ≤ p ∧ p < (intR l p).2.1 ∧ (intR l p).2.1 ≤ l.length := by
  unfold intR rdAt at *
  by_cases hp : p < 0 ∨ l.length < p
  · rw [if_pos hp] at h; cases h
  · rw [if_neg hp] at h ⊢
    simp only at h ⊢
    have h' : (rd 9 1 (l.drop p.toNat) 0 0).2.2 = 0 := by omega
    have := rd_count 9 1 (l.drop p.toNat) 0 0 h'
    rw [if_pos h']
    simp only [List.length_drop] at this
    omega
theorem plcR_ok {b : List UInt8} {p q : Int} {x : Plc} (hp : 0 ≤ p) (h : plcR b p = .ok (x, q)) : (0 ≤ x.kind ∧ x.kind ≤ 4 ∧ 0 ≤ x.n ∧ x.n ≤ 1099511627776 ∧ I64 x.add) ∧ p < q ∧ q ≤ b.length := by
  unfold plcR at h
  split at h
  · cases h
  · rename_i h1
    split at h
    · cases h
    · rename_i h2
      generalize kdOf (byteAt b p) = kd at *
      generalize byteAt b p = k at *
      rcases h3 : nR b kd (p + 1) with e | ⟨n, q1⟩
      · rw [h3] at h; cases h
      · rw [h3] at h
        have h4 : 0 ≤ n ∧ n ≤ 1099511627776 ∧ p + 1 ≤ q1 ∧ q1 ≤ b.length := by
          unfold nR at h3
          split at h3
          · injection h3 with h3
            injection h3 with h5 h6
            omega
          · have h5 := numR_ok h3
            have h6 := numR_pos h3
            omega
        simp only at h
        split at h
        · split at h
          · cases h
          · rename_i h5
            have h5' : (intR b q1).2.2 = 0 := by simpa using h5
            split at h
            · cases h
            · injection h with h
              injection h with h6 h7
              subst h6
              have h8 := intR_rng b q1
              have h9 := intR_fwd h5'
              refine ⟨⟨by simp only; omega, by simp only; omega, by simp only; omega, by simp only; omega, h8⟩, by omega, by omega⟩
        · injection h with h
          injection h with h6 h7
          subst h6
          refine ⟨⟨by simp only; omega, by simp only; omega, by simp only; omega, by simp only; omega, by unfold I64; simp⟩, by omega, by omega⟩
/-- places that are read -/
def PlcsOK (l : List Plc) : Prop := ∀ x ∈ l, 0 ≤ x.kind ∧ x.kind ≤ 4 ∧ 0 ≤ x.n ∧ x.n ≤ 1099511627776 ∧ I64 x.add
theorem plcsR_ok {b : List UInt8} : ∀ {n : Nat} {p q : Int} {l : List Plc}, 0 ≤ p → p ≤ b.length → plcsR b n p = .ok (l, q) → PlcsOK l ∧ l.length = n ∧ p ≤ q ∧ q ≤ b.length
  | 0, p, q, l, h0, h1, h => by
    unfold plcsR at h
    injection h with h
    injection h with h2 h3
    subst h2
    exact ⟨by intro x hx; simp at hx, rfl, by omega, by omega⟩
  | n + 1, p, q, l, h0, h1, h => by
    unfold plcsR at h
    rcases h2 : plcR b p with e | ⟨x, p1⟩
    · rw [h2] at h; cases h
    · rw [h2] at h
      simp only at h
      rcases h3 : plcsR b n p1 with e | ⟨ws, p2⟩
      · rw [h3] at h; cases h
      · rw [h3] at h
        simp only [preR] at h
        injection h with h
        injection h with h4 h5
        subst h4
        obtain ⟨h6, h7, h8⟩ := plcR_ok h0 h2
        obtain ⟨h9, h10, h11, h12⟩ := plcsR_ok (by omega) h8 h3
        refine ⟨fun y hy => ?_, by simp [h10], by omega, by omega⟩
        simp only [List.cons_append, List.nil_append, List.mem_cons] at hy
        rcases hy with rfl | hy
        · exact h6
        · exact h9 y hy
/-- ranges that are read -/
def RngsOK (l : List Rng) : Prop := ∀ r ∈ l, PlcsOK r.places ∧ r.places.length ≤ 40
theorem rngR_ok {b : List UInt8} {last p q : Int} {r : Rng} (h : rngR b last p = .ok (r, q)) : PlcsOK r.places ∧ r.places.length ≤ 40 ∧ (last ≤ r.lo ∧ r.lo ≤ last + 1099511627776) ∧ (r.lo ≤ r.hi ∧ r.hi ≤ r.lo + 1099511627776) ∧ 0 ≤ q ∧ q ≤ b.length := by
  unfold rngR at h
  rcases h1 : numsR b 5 p with e | ⟨vs, p1⟩
  · rw [h1] at h; cases h
  · obtain ⟨hl, hr⟩ := numsR_ok h1
    obtain ⟨lo, hi, c, v, k, rfl⟩ := list5 hl
    rw [h1] at h
    simp only [rngK] at h
    rcases h2 : cntR 40 b p1 with e | ⟨m, p2⟩
    · rw [h2] at h; cases h
    · rw [h2] at h
      simp only at h
      rcases h3 : plcsR b m.toNat p2 with e | ⟨ps, p3⟩
      · rw [h3] at h; cases h
      · rw [h3] at h
        simp only at h
        injection h with h
        injection h with h4 h5
        subst h4
        have h6 := cntR_ok h2
        have h7 := cntR_pos h2
        obtain ⟨h8, h9, h10, h11⟩ := plcsR_ok (by omega) (by omega) h3
        have h12 := hr lo (by simp)
        have h13 := hr hi (by simp)
        exact ⟨h8, by simp only; omega, by simp only; omega, by simp only; omega, by omega, by omega⟩
theorem rngsR_ok {b : List UInt8} : ∀ {n : Nat} {last p q : Int} {l : List Rng}, rngsR b n last p = .ok (l, q) → RngsOK l ∧ l.length = n
  | 0, last, p, q, l, h => by
    unfold rngsR at h
    injection h with h
    injection h with h1 h2
    subst h1
    exact ⟨by intro x hx; simp at hx, rfl⟩
  | n + 1, last, p, q, l, h => by
    unfold rngsR at h
    rcases h1 : rngR b last p with e | ⟨r, p1⟩
    · rw [h1] at h; cases h
    · rw [h1] at h
      simp only at h
      rcases h2 : rngsR b n r.lo p1 with e | ⟨ws, p2⟩
      · rw [h2] at h; cases h
      · rw [h2] at h
        simp only [preR] at h
        injection h with h
        injection h with h3 h4
        subst h3
        obtain ⟨h5, h6, _⟩ := rngR_ok h1
        obtain ⟨h7, h8⟩ := rngsR_ok h2
        refine ⟨fun y hy => ?_, by simp [h8]⟩
        simp only [List.cons_append, List.nil_append, List.mem_cons] at hy
        rcases hy with rfl | hy
        · exact ⟨h5, h6⟩
        · exact h7 y hy
/-- lists that are read -/
structure PTab.R (t : PTab) : Prop where
  lo : 0 ≤ t.lo ∧ t.lo ≤ 1099511627776
  hi : 0 ≤ t.hi ∧ t.hi ≤ 1099511627776
  len : t.ranges.length ≤ 8000
  ok : RngsOK t.ranges
theorem listR'_ok {b : List UInt8} {p q : Int} {t : PTab} (h : listR' b p = .ok (t, q)) : t.R := by
  unfold listR' at h
  rcases h1 : numsR b 2 p with e | ⟨vs, p1⟩
  · rw [h1] at h; cases h
  · obtain ⟨hl, hr⟩ := numsR_ok h1
    obtain ⟨lo, hi, rfl⟩ := list2 hl
    rw [h1] at h
    simp only at h
    rcases h2 : cntR 8000 b p1 with e | ⟨n, p2⟩
    · rw [h2] at h; cases h
    · rw [h2] at h
      simp only at h
      rcases h3 : rngsR b n.toNat lo p2 with e | ⟨rs, p3⟩
      · rw [h3] at h; cases h
      · rw [h3] at h
        simp only at h
        injection h with h
        injection h with h4 h5
        subst h4
        have h6 := cntR_ok h2
        obtain ⟨h7, h8⟩ := rngsR_ok h3
        exact ⟨hr lo (by simp), hr hi (by simp), by simp only; omega, h7⟩
theorem PTab.R.toI {t : PTab} (h : t.R) : t.I := by
  have h1 := h.lo
  have h2 := h.hi
  have h3 := h.len
  exact ⟨by omega, by omega, by omega, fun r hr => by have := (h.ok r hr).2; omega⟩
theorem adds_of_R {l : List PTab} (h : ∀ t ∈ l, t.R) : AddsIn l := fun t ht r hr p hp => (((h t ht).ok r hr).1 p hp).2.2.2.2
end Go.Proofs.Ytokmbdeafjmcjaa
