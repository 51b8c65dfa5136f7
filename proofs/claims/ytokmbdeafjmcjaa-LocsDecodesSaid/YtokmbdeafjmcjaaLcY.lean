/- What ref.Decode of law 19 computes (plain); it is what locs.Decode computes. -/
import Derived.Test.YtokmbdeafjmcjaaLcJ
import Derived.Test.YtokmbdeafjmcjaaCfV
namespace Go.Proofs.Ytokmbdeafjmcjaa
open Go.RowKit
set_option linter.unusedVariables false
set_option linter.unusedSimpArgs false

def byteS (b : List UInt8) (s : RS18) : Int × RS18 := if s.e ≠ 0 then (0, s) else if ¬ s.p < b.length then (0, ⟨s.p, 3⟩) else (byteAt b s.p, ⟨s.p + 1, 0⟩)
def intS (b : List UInt8) (s : RS18) : Int × RS18 := if s.e ≠ 0 then (0, s) else if (intR b s.p).2.2 ≠ 0 then (0, ⟨s.p, (intR b s.p).2.2⟩) else ((intR b s.p).1, ⟨(intR b s.p).2.1, 0⟩)
def limK (m : Int) (u : Int × RS18) : RS18 := if m < u.1 then failS 5 u.2 else u.2
def plcF (k : Int × RS18) : RS18 := if k.2.e = 0 ∧ (15 < k.1 ∨ k.1 % 8 < 1 ∨ 4 < k.1 % 8) then failS 4 k.2 else k.2
def plcN (b : List UInt8) (k : Int × RS18) : Int × RS18 := if k.1 % 8 ≠ 1 then smallS b (plcF k) else (0, plcF k)
def addF (v : Int × RS18) : Int × RS18 := (v.1, if v.2.e = 0 ∧ v.1 = 0 then failS 4 v.2 else v.2)
def plcA (b : List UInt8) (k : Int) (n : RS18) : Int × RS18 := if 8 ≤ k ∧ n.e = 0 then addF (intS b n) else (0, n)
def placeS (b : List UInt8) (s : RS18) : Plc × RS18 :=
  (⟨(byteS b s).1 % 8, (plcN b (byteS b s)).1, (plcA b (byteS b s).1 (plcN b (byteS b s)).2).1⟩, (plcA b (byteS b s).1 (plcN b (byteS b s)).2).2)
def plcsS (b : List UInt8) : Nat → RS18 → List Plc × RS18
  | 0, s => ([], s)
  | k + 1, s => if s.e ≠ 0 then ([], s) else preS [(placeS b s).1] (plcsS b k (placeS b s).2)
def numsS (b : List UInt8) : Nat → RS18 → List Int × RS18
  | 0, s => ([], s)
  | k + 1, s => preS [(smallS b s).1] (numsS b k (smallS b s).2)
def rngT (b : List UInt8) (c v q lo hi : Int) (k : Int × RS18) : Rng × RS18 := (⟨c, v, q, lo, hi, (plcsS b k.1.toNat (limK 40 k)).1⟩, (plcsS b k.1.toNat (limK 40 k)).2)
def rngS (b : List UInt8) (was : Int) (s : RS18) : Rng × RS18 :=
  let a := smallS b s
  let h := smallS b a.2
  let c := smallS b h.2
  let v := smallS b c.2
  let q := smallS b v.2
  rngT b c.1 v.1 q.1 (IntKind.i64.wrap (was + a.1)) (IntKind.i64.wrap (IntKind.i64.wrap (was + a.1) + h.1)) (uintS b q.2)
def rngsS (b : List UInt8) : Nat → Int → RS18 → List Rng × RS18
  | 0, _, s => ([], s)
  | k + 1, was, s => if s.e ≠ 0 then ([], s) else preS [(rngS b was s).1] (rngsS b k (rngS b was s).1.lo (rngS b was s).2)
def listT (b : List UInt8) (lo hi : Int) (n : Int × RS18) : PTab × RS18 := (⟨lo, hi, (rngsS b n.1.toNat lo (limK 8000 n)).1⟩, (rngsS b n.1.toNat lo (limK 8000 n)).2)
def listS (b : List UInt8) (s : RS18) : PTab × RS18 :=
  let a := smallS b s
  let c := smallS b a.2
  listT b a.1 c.1 (uintS b c.2)
def listsS (b : List UInt8) : Nat → RS18 → List PTab × RS18
  | 0, s => ([], s)
  | n + 1, s => if s.e ≠ 0 then ([], s) else preS [(listS b s).1] (listsS b n (listS b s).2)
theorem plcsS_end {b : List UInt8} {k : Nat} {s : RS18} (h : k = 0 ∨ s.e ≠ 0) : plcsS b k s = ([], s) := by
  cases k with
  | zero => rfl
  | succ k => unfold plcsS; rw [if_pos (h.resolve_left (by omega))]
theorem rngsS_end {b : List UInt8} {k : Nat} {was : Int} {s : RS18} (h : k = 0 ∨ s.e ≠ 0) : rngsS b k was s = ([], s) := by
  cases k with
  | zero => rfl
  | succ k => unfold rngsS; rw [if_pos (h.resolve_left (by omega))]
theorem listsS_end {b : List UInt8} {k : Nat} {s : RS18} (h : k = 0 ∨ s.e ≠ 0) : listsS b k s = ([], s) := by
  cases k with
  | zero => rfl
  | succ k => unfold listsS; rw [if_pos (h.resolve_left (by omega))]
open Classical in
noncomputable def decW19 (b : List UInt8) (l : List PTab × RS18) : Except Int (List PTab) :=
  if l.2.e ≠ 0 then .error l.2.e else if l.2.p < b.length ∨ ¬ RightP l.1 then .error 4 else .ok l.1
noncomputable def decS19 (b : List UInt8) : Except Int (List PTab) :=
  if 60000 < b.length then .error 5 else decW19 b (listsS b (uintS b ⟨0, 0⟩).1.toNat (limK 8 (uintS b ⟨0, 0⟩)))
/-! it is what locs.Decode computes -/
def Sees {α : Type} (r : Except Int (α × Int)) (z : α × RS18) : Prop := (∀ er, r = .error er → z.2.e = er ∧ er ≠ 0) ∧ (∀ v q, r = .ok (v, q) → z = (v, ⟨q, 0⟩))
theorem Sees.err {α : Type} {er : Int} {z : α × RS18} (h : z.2.e = er) (h0 : er ≠ 0) : Sees (.error er) z := by
  constructor
  · intro e h1
    injection h1 with h1
    subst h1
    exact ⟨h, h0⟩
  · intro v q h1
    cases h1
theorem Sees.ok {α : Type} {v : α} {q : Int} {z : α × RS18} (h : z = (v, ⟨q, 0⟩)) : Sees (.ok (v, q)) z := by
  constructor
  · intro e h1
    cases h1
  · intro v' q' h1
    injection h1 with h1
    injection h1 with h2 h3
    rw [h, h2, h3]
theorem uint_dead {b : List UInt8} {s : RS18} (h : s.e ≠ 0) : uintS b s = (0, s) := by unfold uintS; rw [if_pos h]
theorem int_dead {b : List UInt8} {s : RS18} (h : s.e ≠ 0) : intS b s = (0, s) := by unfold intS; rw [if_pos h]
theorem nums_dead {b : List UInt8} : ∀ (n : Nat) {s : RS18}, s.e ≠ 0 → (numsS b n s).2 = s
  | 0, s, _ => rfl
  | n + 1, s, h => by
    unfold numsS
    rw [small_dead h]
    exact nums_dead n h
theorem nums_small {b : List UInt8} : ∀ (n : Nat) (p : Int), Sees (numsR b n p) (numsS b n ⟨p, 0⟩)
  | 0, p => Sees.ok rfl
  | n + 1, p => by
    obtain ⟨h1, h2⟩ := small_num (b := b) (p := p)
    unfold numsR
    rcases h3 : numR b p with e | ⟨v, q⟩
    · obtain ⟨h4, h5⟩ := h1 e h3
      refine Sees.err ?_ h5
      show (numsS b n (smallS b ⟨p, 0⟩).2).2.e = e
      rw [nums_dead n (by rw [h4]; exact h5), h4]
    · have h4 := h2 v q h3
      obtain ⟨i1, i2⟩ := nums_small n q
      simp only
      unfold numsS
      rw [h4]
      rcases h5 : numsR b n q with e | ⟨vs, r⟩
      · obtain ⟨h6, h7⟩ := i1 e h5
        exact Sees.err h6 h7
      · have h6 := i2 vs r h5
        refine Sees.ok ?_
        show preS [v] (numsS b n ⟨q, 0⟩) = _
        rw [h6]
        rfl
theorem lim_cnt {b : List UInt8} {m p : Int} : (∀ er, cntR m b p = .error er → (limK m (uintS b ⟨p, 0⟩)).e = er ∧ er ≠ 0) ∧ (∀ v q, cntR m b p = .ok (v, q) → uintS b ⟨p, 0⟩ = (v, ⟨q, 0⟩) ∧ limK m (uintS b ⟨p, 0⟩) = ⟨q, 0⟩) := by
  have hz : uintS b ⟨p, 0⟩ = if (uintR b p).2.2 ≠ 0 then (0, ⟨p, (uintR b p).2.2⟩) else ((uintR b p).1, ⟨(uintR b p).2.1, 0⟩) := by
    unfold uintS
    rw [if_neg (by simp)]
  unfold cntR limK
  rw [hz]
  by_cases h : (uintR b p).2.2 ≠ 0
  · rw [if_pos h, if_pos h]
    refine ⟨fun er e => ?_, fun v q e => by cases e⟩
    injection e with e
    subst e
    refine ⟨?_, h⟩
    split
    · unfold failS
      rw [if_neg h]
    · rfl
  · rw [if_neg h, if_neg h]
    by_cases h2 : m < (uintR b p).1
    · rw [if_pos h2]
      refine ⟨fun er e => ?_, fun v q e => by cases e⟩
      injection e with e
      subst e
      rw [if_pos h2]
      exact ⟨rfl, by decide⟩
    · rw [if_neg h2]
      refine ⟨fun er e => (by cases e), fun v q e => ?_⟩
      injection e with e
      injection e with e1 e2
      rw [if_neg h2, e1, e2]
      exact ⟨rfl, rfl⟩
theorem byteAt_lt (b : List UInt8) (p : Int) : 0 ≤ byteAt b p ∧ byteAt b p ≤ 255 := by
  unfold byteAt
  have := (b.getD p.toNat 0).toNat_lt
  omega
theorem addF_eq {b : List UInt8} {q : Int} : (∀ e, (intR b q).2.2 = e → e ≠ 0 → (addF (intS b ⟨q, 0⟩)).2.e = e) ∧ ((intR b q).2.2 = 0 → (intR b q).1 = 0 → (addF (intS b ⟨q, 0⟩)).2.e = 4) ∧ ((intR b q).2.2 = 0 → (intR b q).1 ≠ 0 → addF (intS b ⟨q, 0⟩) = ((intR b q).1, ⟨(intR b q).2.1, 0⟩)) := by
  have hz : intS b ⟨q, 0⟩ = if (intR b q).2.2 ≠ 0 then (0, ⟨q, (intR b q).2.2⟩) else ((intR b q).1, ⟨(intR b q).2.1, 0⟩) := by
    unfold intS
    rw [if_neg (by simp)]
  rw [hz]
  refine ⟨fun e h h0 => ?_, fun h h2 => ?_, fun h h2 => ?_⟩
  · rw [if_pos (by rw [h]; exact h0)]
    unfold addF
    simp only
    rw [if_neg (fun h3 => h0 (by rw [← h]; exact h3.1))]
    exact h
  · rw [if_neg (by simpa using h)]
    unfold addF
    simp only
    rw [if_pos (by simp [h2])]
    rfl
  · rw [if_neg (by simpa using h)]
    unfold addF
    simp only
    rw [if_neg (fun h3 => h2 h3.2)]
theorem place_eq {b : List UInt8} {p : Int} : Sees (plcR b p) (placeS b ⟨p, 0⟩) := by
  have hz : byteS b ⟨p, 0⟩ = if ¬ p < b.length then (0, ⟨p, 3⟩) else (byteAt b p, ⟨p + 1, 0⟩) := by
    unfold byteS
    rw [if_neg (by simp)]
  have hbl := byteAt_lt b p
  unfold plcR placeS
  rw [hz]
  by_cases h1 : ¬ p < b.length
  · rw [if_pos h1, if_pos h1]
    have e1 : plcF (0, ⟨p, 3⟩) = ⟨p, 3⟩ := by unfold plcF; rw [if_neg (fun h => by have := h.1; cases this)]
    have e2 : plcN b (0, ⟨p, 3⟩) = (0, ⟨p, 3⟩) := by
      unfold plcN
      rw [e1, if_pos (by simp)]
      exact small_dead (show (3 : Int) ≠ 0 by decide)
    rw [e2]
    refine Sees.err ?_ (by decide)
    unfold plcA
    rw [if_neg (fun h => by have := h.2; cases this)]
  · rw [if_neg h1, if_neg h1]
    generalize byteAt b p = k at *
    by_cases h2 : kdOf k < 1 ∨ 4 < kdOf k
    · rw [if_pos h2]
      have h3 : 15 < k ∨ k % 8 < 1 ∨ 4 < k % 8 := by unfold kdOf at h2; split at h2 <;> omega
      have e1 : plcF (k, ⟨p + 1, 0⟩) = ⟨p + 1, 4⟩ := by
        unfold plcF
        rw [if_pos ⟨rfl, h3⟩]
        rfl
      have e2 : (plcN b (k, ⟨p + 1, 0⟩)).2 = ⟨p + 1, 4⟩ := by
        unfold plcN
        rw [e1]
        split
        · rw [small_dead (show (4 : Int) ≠ 0 by decide)]
        · rfl
      refine Sees.err ?_ (by decide)
      unfold plcA
      rw [if_neg (fun h => by have := h.2; rw [e2] at this; cases this)]
      simp only
      rw [e2]
    · rw [if_neg h2]
      have h3 : ¬ (15 < k ∨ k % 8 < 1 ∨ 4 < k % 8) := by unfold kdOf at h2; split at h2 <;> omega
      have h4 : kdOf k = k % 8 := by unfold kdOf; split <;> omega
      have e1 : plcF (k, ⟨p + 1, 0⟩) = ⟨p + 1, 0⟩ := by
        unfold plcF
        rw [if_neg (fun h => h3 h.2)]
      have e2 : Sees (nR b (k % 8) (p + 1)) (plcN b (k, ⟨p + 1, 0⟩)) := by
        unfold nR plcN
        rw [e1]
        simp only
        by_cases h5 : k % 8 = 1
        · rw [if_pos h5, if_neg (by simpa using h5)]
          exact Sees.ok rfl
        · rw [if_neg h5, if_pos h5]
          obtain ⟨a1, a2⟩ := small_num (b := b) (p := p + 1)
          rcases h6 : numR b (p + 1) with e | ⟨v, q⟩
          · exact Sees.err (a1 e h6).1 (a1 e h6).2
          · exact Sees.ok (a2 v q h6)
      rw [h4]
      rcases h5 : nR b (k % 8) (p + 1) with e | ⟨n, q⟩
      · obtain ⟨h6, h7⟩ := e2.1 e h5
        refine Sees.err ?_ h7
        unfold plcA
        rw [if_neg (fun h => h7 (by rw [← h6]; exact h.2))]
        exact h6
      · have h6 := e2.2 n q h5
        simp only
        rw [h6]
        unfold plcA
        obtain ⟨a1, a2, a3⟩ := addF_eq (b := b) (q := q)
        by_cases h7 : 8 ≤ k
        · rw [if_pos h7, if_pos (show 8 ≤ k ∧ (n, (⟨q, 0⟩ : RS18)).2.e = 0 from ⟨h7, rfl⟩)]
          by_cases h8 : (intR b q).2.2 ≠ 0
          · rw [if_pos h8]
            exact Sees.err (a1 _ rfl h8) h8
          · rw [if_neg h8]
            have h8' : (intR b q).2.2 = 0 := by simpa using h8
            by_cases h9 : (intR b q).1 = 0
            · rw [if_pos h9]
              exact Sees.err (a2 h8' h9) (by decide)
            · rw [if_neg h9]
              refine Sees.ok ?_
              rw [a3 h8' h9]
        · rw [if_neg h7, if_neg (show ¬ (8 ≤ k ∧ (n, (⟨q, 0⟩ : RS18)).2.e = 0) from fun h => h7 h.1)]
          exact Sees.ok rfl
theorem plcs_eq {b : List UInt8} : ∀ (n : Nat) (p : Int), Sees (plcsR b n p) (plcsS b n ⟨p, 0⟩)
  | 0, p => Sees.ok rfl
  | n + 1, p => by
    obtain ⟨t1, t2⟩ := place_eq (b := b) (p := p)
    unfold plcsR plcsS
    rw [if_neg (by simp)]
    rcases h1 : plcR b p with e | ⟨t, q⟩
    · obtain ⟨h2, h3⟩ := t1 e h1
      rw [plcsS_end (.inr (by rw [h2]; exact h3))]
      exact Sees.err h2 h3
    · have h2 := t2 t q h1
      simp only
      rw [h2]
      simp only
      obtain ⟨i1, i2⟩ := plcs_eq n q
      rcases h4 : plcsR b n q with e | ⟨l, r⟩
      · exact Sees.err (i1 e h4).1 (i1 e h4).2
      · have h5 := i2 l r h4
        refine Sees.ok ?_
        rw [h5]
        rfl
theorem rngS_nums (b : List UInt8) (was : Int) (s : RS18) : ∃ a h c v q s', numsS b 5 s = ([a, h, c, v, q], s') ∧ rngS b was s = rngT b c v q (IntKind.i64.wrap (was + a)) (IntKind.i64.wrap (IntKind.i64.wrap (was + a) + h)) (uintS b s') :=
  ⟨_, _, _, _, _, _, rfl, rfl⟩
theorem rngT_dead {b : List UInt8} {c v q lo hi : Int} {s : RS18} (h : s.e ≠ 0) : (rngT b c v q lo hi (uintS b s)).2 = s := by
  unfold rngT
  rw [uint_dead h]
  have : limK 40 (0, s) = s := by unfold limK; rw [if_neg (by simp)]
  rw [this, plcsS_end (.inr h)]
theorem rng_eq {b : List UInt8} {last p : Int} (h0 : 0 ≤ last) (h1 : last ≤ 9000000000000000000) : Sees (rngR b last p) (rngS b last ⟨p, 0⟩) := by
  obtain ⟨a, h, c, v, q, s', e1, e2⟩ := rngS_nums b last ⟨p, 0⟩
  obtain ⟨t1, t2⟩ := nums_small (b := b) 5 p
  rw [e2]
  unfold rngR
  rcases h2 : numsR b 5 p with e | ⟨vs, p1⟩
  · obtain ⟨h3, h4⟩ := t1 e h2
    rw [e1] at h3
    refine Sees.err ?_ h4
    rw [rngT_dead (by rw [h3]; exact h4)]
    exact h3
  · have h3 := t2 vs p1 h2
    rw [e1] at h3
    injection h3 with h4 h5
    obtain ⟨hvl, hvr⟩ := numsR_ok h2
    rw [← h4] at hvr ⊢
    have ha := hvr a (by simp)
    have hh := hvr h (by simp)
    have w1 : IntKind.i64.wrap (last + a) = a + last := by rw [IntKind.wrap_i64]; omega
    have w2 : IntKind.i64.wrap (a + last + h) = h + (a + last) := by rw [IntKind.wrap_i64]; omega
    simp only
    rw [h5, w1, w2]
    unfold rngK rngT
    obtain ⟨c1, c2⟩ := lim_cnt (b := b) (m := 40) (p := p1)
    rcases h6 : cntR 40 b p1 with e | ⟨m, p2⟩
    · obtain ⟨h7, h8⟩ := c1 e h6
      rw [plcsS_end (.inr (by rw [h7]; exact h8))]
      exact Sees.err h7 h8
    · obtain ⟨h7, h8⟩ := c2 m p2 h6
      simp only
      rw [h8, h7]
      simp only
      obtain ⟨i1, i2⟩ := plcs_eq (b := b) m.toNat p2
      rcases h9 : plcsR b m.toNat p2 with e | ⟨ps, p3⟩
      · exact Sees.err (i1 e h9).1 (i1 e h9).2
      · have h10 := i2 ps p3 h9
        refine Sees.ok ?_
        rw [h10]
theorem rngs_eq {b : List UInt8} : ∀ (n : Nat) (last p : Int), 0 ≤ last → last + 1099511627776 * n ≤ 9000000000000000000 → Sees (rngsR b n last p) (rngsS b n last ⟨p, 0⟩)
  | 0, last, p, _, _ => by unfold rngsR rngsS; exact Sees.ok rfl
  | n + 1, last, p, h0, hb => by
    obtain ⟨t1, t2⟩ := rng_eq (b := b) (p := p) h0 (by omega)
    unfold rngsR rngsS
    rw [if_neg (by simp)]
    rcases h1 : rngR b last p with e | ⟨t, q⟩
    · obtain ⟨h2, h3⟩ := t1 e h1
      rw [rngsS_end (.inr (by rw [h2]; exact h3))]
      exact Sees.err h2 h3
    · have h2 := t2 t q h1
      have h3 := rngR_ok h1
      simp only
      rw [h2]
      simp only
      obtain ⟨i1, i2⟩ := rngs_eq n t.lo q (by omega) (by omega)
      rcases h4 : rngsR b n t.lo q with e | ⟨l, r⟩
      · exact Sees.err (i1 e h4).1 (i1 e h4).2
      · have h5 := i2 l r h4
        refine Sees.ok ?_
        rw [h5]
        rfl
theorem list_eq19 {b : List UInt8} (p : Int) : Sees (listR' b p) (listS b ⟨p, 0⟩) := by
  obtain ⟨t1, t2⟩ := nums_small (b := b) 2 p
  have e1 : numsS b 2 ⟨p, 0⟩ = ([(smallS b ⟨p, 0⟩).1, (smallS b (smallS b ⟨p, 0⟩).2).1], (smallS b (smallS b ⟨p, 0⟩).2).2) := rfl
  unfold listR' listS
  simp only
  generalize (smallS b ⟨p, 0⟩).1 = lo at *
  generalize smallS b (smallS b ⟨p, 0⟩).2 = z at *
  obtain ⟨hi, s'⟩ := z
  simp only at e1 ⊢
  rcases h2 : numsR b 2 p with e | ⟨vs, p1⟩
  · obtain ⟨h3, h4⟩ := t1 e h2
    rw [e1] at h3
    refine Sees.err ?_ h4
    unfold listT
    rw [uint_dead (by rw [h3]; exact h4)]
    have : limK 8000 (0, s') = s' := by unfold limK; rw [if_neg (by simp)]
    rw [this, rngsS_end (.inr (by rw [h3]; exact h4))]
    exact h3
  · have h3 := t2 vs p1 h2
    rw [e1] at h3
    injection h3 with h4 h5
    obtain ⟨hvl, hvr⟩ := numsR_ok h2
    rw [← h4] at hvr ⊢
    have hlr := hvr lo (by simp)
    simp only
    rw [h5]
    unfold listT
    obtain ⟨c1, c2⟩ := lim_cnt (b := b) (m := 8000) (p := p1)
    rcases h6 : cntR 8000 b p1 with e | ⟨m, p2⟩
    · obtain ⟨h7, h8⟩ := c1 e h6
      rw [rngsS_end (.inr (by rw [h7]; exact h8))]
      exact Sees.err h7 h8
    · obtain ⟨h7, h8⟩ := c2 m p2 h6
      have hmr := cntR_ok h6
      simp only
      rw [h8, h7]
      simp only
      obtain ⟨i1, i2⟩ := rngs_eq (b := b) m.toNat lo p2 hlr.1 (by omega)
      rcases h9 : rngsR b m.toNat lo p2 with e | ⟨ps, p3⟩
      · exact Sees.err (i1 e h9).1 (i1 e h9).2
      · have h10 := i2 ps p3 h9
        refine Sees.ok ?_
        rw [h10]
theorem lists_eq {b : List UInt8} : ∀ (n : Nat) (p : Int), Sees (listsR b n p) (listsS b n ⟨p, 0⟩)
  | 0, p => Sees.ok rfl
  | n + 1, p => by
    obtain ⟨t1, t2⟩ := list_eq19 (b := b) p
    unfold listsR listsS
    rw [if_neg (by simp)]
    rcases h1 : listR' b p with e | ⟨t, q⟩
    · obtain ⟨h2, h3⟩ := t1 e h1
      rw [listsS_end (.inr (by rw [h2]; exact h3))]
      exact Sees.err h2 h3
    · have h2 := t2 t q h1
      simp only
      rw [h2]
      simp only
      obtain ⟨i1, i2⟩ := lists_eq n q
      rcases h4 : listsR b n q with e | ⟨l, r⟩
      · exact Sees.err (i1 e h4).1 (i1 e h4).2
      · have h5 := i2 l r h4
        refine Sees.ok ?_
        rw [h5]
        rfl
theorem decW19_err {b : List UInt8} {l : List PTab × RS18} {er : Int} (h : l.2.e = er) (h0 : er ≠ 0) : decW19 b l = .error er := by
  unfold decW19
  rw [if_pos (by rw [h]; exact h0), h]
theorem decS19_eq (b : List UInt8) : decS19 b = decP b := by
  unfold decS19 decP
  by_cases h6 : 60000 < b.length
  · rw [if_pos h6, if_pos h6]
  · rw [if_neg h6, if_neg h6]
    obtain ⟨c1, c2⟩ := lim_cnt (b := b) (m := 8) (p := 0)
    rcases h4 : cntR 8 b 0 with e | ⟨n, p⟩
    · obtain ⟨h7, h8⟩ := c1 e h4
      rw [listsS_end (.inr (by rw [h7]; exact h8))]
      exact decW19_err h7 h8
    · obtain ⟨h7, h8⟩ := c2 n p h4
      rw [h8, h7]
      simp only
      obtain ⟨i1, i2⟩ := lists_eq (b := b) n.toNat p
      rcases h9 : listsR b n.toNat p with e | ⟨l, q⟩
      · exact decW19_err (i1 e h9).1 (i1 e h9).2
      · rw [i2 l q h9]
        unfold decW19
        simp only
        rw [if_neg (by simp)]
end Go.Proofs.Ytokmbdeafjmcjaa
