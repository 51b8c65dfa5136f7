/- Plain facts on numbers in groups of 7 bits: no program here. -/
namespace Go.Proofs.Ytopanbcodfkedaa

/-- a bound that is kept out of sight -/
structure Lt64 (u : Nat) : Prop where
  out : u < 18446744073709551616
/-- a number in groups of 7 bits, the lowest first -/
def leb (u : Nat) : List UInt8 :=
  if u < 128 then [UInt8.ofNat u] else UInt8.ofNat (u % 128 + 128) :: leb (u / 128)
termination_by u
decreasing_by omega

theorem leb_small {u : Nat} (h : u < 128) : leb u = [UInt8.ofNat u] := by rw [leb, if_pos h]
theorem leb_big {u : Nat} (h : ¬ u < 128) : leb u = UInt8.ofNat (u % 128 + 128) :: leb (u / 128) := by rw [leb, if_neg h]
theorem leb_pos (u : Nat) : 0 < (leb u).length := by
  by_cases h : u < 128
  · simp [leb_small h]
  · simp [leb_big h]
theorem leb_len (k : Nat) : ∀ u : Nat, u < 128 ^ (k + 1) → (leb u).length ≤ k + 1 := by
  induction k with
  | zero => intro u h; rw [leb_small (by omega)]; simp
  | succ k ih =>
    intro u h
    by_cases h1 : u < 128
    · simp [leb_small h1]
    · rw [leb_big h1]
      have := ih (u / 128) (by rw [Nat.pow_succ] at h; omega)
      simp; omega
theorem leb_len10 {u : Nat} (h : u < 18446744073709551616) : (leb u).length ≤ 10 := leb_len 9 u (by omega)
/-- a number with a sign as one without -/
def zig (v : Int) : Nat := if v < 0 then (-2 * v - 1).toNat else (2 * v).toNat
theorem zig_lt {v : Int} (h1 : -9223372036854775808 ≤ v) (h2 : v ≤ 9223372036854775807) : zig v < 18446744073709551616 := by
  unfold zig; split <;> omega
/-- what AppendUint appends -/
def uintB (v : Int) : List UInt8 := if v < 0 then [] else leb v.toNat
theorem uintB_len {v : Int} (h2 : v ≤ 9223372036854775807) : (uintB v).length ≤ 10 := by
  unfold uintB; split
  · simp
  · exact leb_len10 (by omega)

/-- reading a number: what is left, how many bytes were read, what they give so far; the result: the number, how many bytes, the error -/
def rd (last most : Nat) : List UInt8 → Nat → Nat → Nat × Nat × Nat
  | [], _, _ => (0, 0, 3)
  | c :: r, i, u =>
    if i = last ∧ most < c.toNat then (0, 0, 2)
    else if c.toNat = 0 ∧ 0 < i then (0, 0, 4)
    else if c.toNat < 128 then (u + c.toNat % 128 * 2 ^ (7 * i), i + 1, 0)
    else rd last most r (i + 1) (u + c.toNat % 128 * 2 ^ (7 * i))
theorem rd_range {last most : Nat} {c : UInt8} {r : List UInt8} {i u : Nat} (h : i = last ∧ most < c.toNat) : rd last most (c :: r) i u = (0, 0, 2) := by rw [rd, if_pos h]
theorem rd_form {last most : Nat} {c : UInt8} {r : List UInt8} {i u : Nat} (h : ¬ (i = last ∧ most < c.toNat)) (h2 : c.toNat = 0 ∧ 0 < i) : rd last most (c :: r) i u = (0, 0, 4) := by rw [rd, if_neg h, if_pos h2]
theorem rd_done {last most : Nat} {c : UInt8} {r : List UInt8} {i u : Nat} (h : ¬ (i = last ∧ most < c.toNat)) (h2 : ¬ (c.toNat = 0 ∧ 0 < i)) (h3 : c.toNat < 128) :
    rd last most (c :: r) i u = (u + c.toNat % 128 * 2 ^ (7 * i), i + 1, 0) := by rw [rd, if_neg h, if_neg h2, if_pos h3]
theorem rd_more {last most : Nat} {c : UInt8} {r : List UInt8} {i u : Nat} (h : ¬ (i = last ∧ most < c.toNat)) (h2 : ¬ (c.toNat = 0 ∧ 0 < i)) (h3 : ¬ c.toNat < 128) :
    rd last most (c :: r) i u = rd last most r (i + 1) (u + c.toNat % 128 * 2 ^ (7 * i)) := by rw [rd, if_neg h, if_neg h2, if_neg h3]
/-- the number at a place, the next place, the error -/
def rdAt (last most : Nat) (l : List UInt8) (at_ : Int) : Nat × Int × Int :=
  if at_ < 0 ∨ l.length < at_ then (0, 0, 1) else
  ((rd last most (l.drop at_.toNat) 0 0).1, (if (rd last most (l.drop at_.toNat) 0 0).2.2 = 0 then at_ + (rd last most (l.drop at_.toNat) 0 0).2.1 else 0), (rd last most (l.drop at_.toNat) 0 0).2.2)
theorem rdAt_of {last most p u n er : Nat} {l : List UInt8} (hp : p ≤ l.length) (h : rd last most (l.drop p) 0 0 = (u, n, er)) :
    rdAt last most l (p : Int) = (u, (if er = 0 then (p : Int) + n else 0), (er : Int)) := by
  unfold rdAt
  rw [if_neg (by omega), Int.toNat_natCast, h]
theorem drop_at {α : Type} {l : List α} {k : Nat} (h : k < l.length) : l.drop k = l[k] :: l.drop (k + 1) := List.drop_eq_getElem_cons h

theorem pow7s (k : Nat) : 2 ^ (7 * (k + 1)) = 128 * 2 ^ (7 * k) := by rw [Nat.mul_add, Nat.pow_add]; omega
/-- what is read fits -/
theorem rd_lt (last most M : Nat) (hm : most < 128) (hM : (most % 128 + 1) * 2 ^ (7 * last) ≤ M) (hM2 : 2 ^ (7 * last) ≤ M) :
    ∀ (l : List UInt8) (i u : Nat), i ≤ last → u < 2 ^ (7 * i) → (rd last most l i u).1 < M := by
  have hpos : 0 < M := Nat.lt_of_lt_of_le (Nat.pow_pos (by omega)) hM2
  intro l
  induction l with
  | nil => intro i u _ _; simpa [rd] using hpos
  | cons c r ih =>
    intro i u hi hu
    by_cases h1 : i = last ∧ most < c.toNat
    · rw [rd_range h1]; exact hpos
    · by_cases h2 : c.toNat = 0 ∧ 0 < i
      · rw [rd_form h1 h2]; exact hpos
      · have hstep : u + c.toNat % 128 * 2 ^ (7 * i) < 2 ^ (7 * (i + 1)) := by
          rw [pow7s]
          have : c.toNat % 128 * 2 ^ (7 * i) ≤ 127 * 2 ^ (7 * i) := Nat.mul_le_mul (by omega) (Nat.le_refl _)
          omega
        by_cases h3 : c.toNat < 128
        · rw [rd_done h1 h2 h3]
          by_cases hl : i = last
          · subst hl
            have : c.toNat % 128 * 2 ^ (7 * i) ≤ (most % 128) * 2 ^ (7 * i) := Nat.mul_le_mul (by omega) (Nat.le_refl _)
            rw [Nat.add_mul] at hM
            show u + _ < M
            omega
          · exact Nat.lt_of_lt_of_le (Nat.lt_of_lt_of_le hstep (Nat.pow_le_pow_right (by omega) (by omega))) hM2
        · rw [rd_more h1 h2 h3]
          exact ih (i + 1) _ (by omega) hstep
theorem rdAt_lt8 (l : List UInt8) (p : Int) : (rdAt 8 127 l p).1 < 9223372036854775808 := by
  unfold rdAt
  split
  · show 0 < 9223372036854775808; omega
  · exact rd_lt 8 127 _ (by omega) (by decide) (by decide) _ 0 0 (by omega) (by decide)
theorem rdAt_lt9 (l : List UInt8) (p : Int) : (rdAt 9 1 l p).1 < 18446744073709551616 := by
  unfold rdAt
  split
  · show 0 < 18446744073709551616; omega
  · exact rd_lt 9 1 _ (by omega) (by decide) (by decide) _ 0 0 (by omega) (by decide)
/-- the number with a sign -/
def unzig (u : Nat) : Int := if u % 2 = 1 then -((u / 2 : Nat) : Int) - 1 else ((u / 2 : Nat) : Int)
/-- what Uint, Int and Text answer -/
def uintR (l : List UInt8) (p : Int) : Int × Int × Int := (((rdAt 8 127 l p).1 : Int), (rdAt 8 127 l p).2.1, (rdAt 8 127 l p).2.2)
def intR (l : List UInt8) (p : Int) : Int × Int × Int := (unzig (rdAt 9 1 l p).1, (rdAt 9 1 l p).2.1, (rdAt 9 1 l p).2.2)
def textR (l : List UInt8) (p : Int) : List UInt8 × Int × Int :=
  if (uintR l p).2.2 ≠ 0 then ([], 0, (uintR l p).2.2)
  else if (l.length : Int) - (uintR l p).2.1 < (uintR l p).1 then ([], 0, 3)
  else ((l.drop (uintR l p).2.1.toNat).take (uintR l p).1.toNat, (uintR l p).2.1 + (uintR l p).1, 0)
theorem rd_count (last most : Nat) : ∀ (l : List UInt8) (i u : Nat), (rd last most l i u).2.2 = 0 → i < (rd last most l i u).2.1 ∧ (rd last most l i u).2.1 ≤ i + l.length := by
  intro l
  induction l with
  | nil => intro i u h; simp [rd] at h
  | cons c r ih =>
    intro i u h
    by_cases h1 : i = last ∧ most < c.toNat
    · rw [rd_range h1] at h; cases h
    · by_cases h2 : c.toNat = 0 ∧ 0 < i
      · rw [rd_form h1 h2] at h; cases h
      · by_cases h3 : c.toNat < 128
        · rw [rd_done h1 h2 h3]; simp
        · rw [rd_more h1 h2 h3] at h ⊢
          have := ih (i + 1) _ h
          simp only [List.length_cons]
          omega
theorem uintR_next {l : List UInt8} {p : Int} (h : (uintR l p).2.2 = 0) : 0 ≤ p ∧ p < (uintR l p).2.1 ∧ (uintR l p).2.1 ≤ l.length := by
  unfold uintR rdAt at *
  by_cases hp : p < 0 ∨ l.length < p
  · rw [if_pos hp] at h; cases h
  · rw [if_neg hp] at h ⊢
    simp only at h ⊢
    have h' : (rd 8 127 (l.drop p.toNat) 0 0).2.2 = 0 := by omega
    have := rd_count 8 127 (l.drop p.toNat) 0 0 h'
    rw [if_pos h']
    simp only [List.length_drop] at this
    omega
end Go.Proofs.Ytopanbcodfkedaa
