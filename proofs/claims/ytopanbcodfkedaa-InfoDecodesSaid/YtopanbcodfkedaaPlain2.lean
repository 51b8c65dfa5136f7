/- Plain laws of numbers in groups: what is written is read again; cut and lengthened numbers are refused. No program here. -/
import Derived.Test.YtopanbcodfkedaaPlain
namespace Go.Proofs.Ytopanbcodfkedaa

theorem ofNat_small {v : Nat} (h : v < 256) : (UInt8.ofNat v).toNat = v := by simp; omega

theorem rd_leb (last most C : Nat) (h1 : 2 ^ (C - 7 * last) = most + 1) (h2 : most < 128) (h3 : 7 * last ≤ C) (rest : List UInt8) :
    ∀ n i v acc : Nat, i + n = last → v < 2 ^ (C - 7 * i) → (0 < i → 0 < v) → rd last most (leb v ++ rest) i acc = (acc + v * 2 ^ (7 * i), i + (leb v).length, 0) := by
  intro n
  induction n with
  | zero =>
    intro i v acc hi hv h0
    obtain rfl : i = last := by omega
    rw [h1] at hv
    have hc := ofNat_small (v := v) (by omega)
    rw [leb_small (by omega), List.cons_append, rd_done (by rw [hc]; omega) (by rw [hc]; omega) (by rw [hc]; omega), hc, Nat.mod_eq_of_lt (by omega)]
    rfl
  | succ n ih =>
    intro i v acc hi hv h0
    by_cases hs : v < 128
    · have hc := ofNat_small (v := v) (by omega)
      rw [leb_small hs, List.cons_append, rd_done (by omega) (by rw [hc]; omega) (by rw [hc]; omega), hc, Nat.mod_eq_of_lt (by omega)]
      rfl
    · have hc := ofNat_small (v := v % 128 + 128) (by omega)
      have hd : v / 128 < 2 ^ (C - 7 * (i + 1)) := by
        have e : 2 ^ (C - 7 * i) = 128 * 2 ^ (C - 7 * (i + 1)) := by
          rw [show C - 7 * i = 7 + (C - 7 * (i + 1)) by omega, Nat.pow_add]
        rw [e] at hv
        exact Nat.div_lt_of_lt_mul hv
      rw [leb_big hs, List.cons_append, rd_more (by omega) (by rw [hc]; omega) (by rw [hc]; omega), ih (i + 1) (v / 128) _ (by omega) hd (by omega), hc]
      have e1 : (v % 128 + 128) % 128 = v % 128 := by omega
      rw [e1, pow7s, List.length_cons]
      have e2 : acc + v % 128 * 2 ^ (7 * i) + v / 128 * (128 * 2 ^ (7 * i)) = acc + v * 2 ^ (7 * i) := by
        rw [← Nat.mul_assoc, Nat.add_assoc, ← Nat.add_mul, show v % 128 + v / 128 * 128 = v by omega]
      rw [e2, show i + 1 + (leb (v / 128)).length = i + ((leb (v / 128)).length + 1) by omega]

theorem rd_leb8 {v : Nat} (hv : v < 9223372036854775808) (rest : List UInt8) : rd 8 127 (leb v ++ rest) 0 0 = (v, (leb v).length, 0) := by
  rw [rd_leb 8 127 63 (by decide) (by omega) (by omega) rest 8 0 v 0 (by omega) hv (by omega)]
  simp
theorem rd_leb9 {v : Nat} (hv : v < 18446744073709551616) (rest : List UInt8) : rd 9 1 (leb v ++ rest) 0 0 = (v, (leb v).length, 0) := by
  rw [rd_leb 9 1 64 (by decide) (by omega) (by omega) rest 9 0 v 0 (by omega) hv (by omega)]
  simp

theorem unzig_zig (v : Int) : unzig (zig v) = v := by
  unfold unzig zig
  split <;> split <;> omega

/-- what is appended is read again -/
theorem uintR_leb {v : Nat} (hv : v < 9223372036854775808) (pre rest : List UInt8) : uintR (pre ++ (leb v ++ rest)) (pre.length : Int) = ((v : Int), (pre.length : Int) + (leb v).length, 0) := by
  unfold uintR
  rw [rdAt_of (u := v) (n := (leb v).length) (er := 0) (by simp) (by rw [List.drop_left]; exact rd_leb8 hv rest)]
  rfl
theorem intR_leb {v : Int} (h1 : -9223372036854775808 ≤ v) (h2 : v ≤ 9223372036854775807) (pre rest : List UInt8) : intR (pre ++ (leb (zig v) ++ rest)) (pre.length : Int) = (v, (pre.length : Int) + (leb (zig v)).length, 0) := by
  unfold intR
  rw [rdAt_of (u := zig v) (n := (leb (zig v)).length) (er := 0) (by simp) (by rw [List.drop_left]; exact rd_leb9 (zig_lt h1 h2) rest), unzig_zig]
  rfl
theorem textR_leb (pre t rest : List UInt8) (ht : t.length < 9223372036854775808) : textR (pre ++ ((leb t.length ++ t) ++ rest)) (pre.length : Int) = (t, (pre.length : Int) + ((leb t.length).length + t.length : Nat), 0) := by
  have h := uintR_leb ht pre (t ++ rest)
  unfold textR
  rw [List.append_assoc, h]
  simp only [List.length_append]
  rw [if_neg (by simp), if_neg (by omega)]
  have e1 : ((pre.length : Int) + ((leb t.length).length : Int)).toNat = pre.length + (leb t.length).length := by omega
  rw [e1, Int.toNat_natCast, List.drop_append, List.drop_of_length_le (by omega), Nat.add_sub_cancel_left, List.nil_append, List.drop_left, List.take_left]
  refine Prod.ext rfl (Prod.ext ?_ rfl)
  simp only
  omega

/-- no proper beginning of a number is read -/
theorem rd_cut (last most : Nat) : ∀ (v k i acc : Nat), k < (leb v).length → i + (leb v).length ≤ last + 1 → rd last most ((leb v).take k) i acc = (0, 0, 3) := by
  intro v
  induction v using Nat.strongRecOn with
  | _ v ih =>
    intro k i acc hk hi
    cases k with
    | zero => rw [List.take_zero, rd]
    | succ k =>
      by_cases hs : v < 128
      · rw [leb_small hs] at hk; simp at hk
      · have hc := ofNat_small (v := v % 128 + 128) (by omega)
        rw [leb_big hs] at hk hi ⊢
        rw [List.length_cons] at hk hi
        have := leb_pos (v / 128)
        rw [List.take_succ_cons, rd_more (by omega) (by rw [hc]; omega) (by rw [hc]; omega)]
        exact ih (v / 128) (by omega) k (i + 1) _ (by omega) (by omega)
theorem rd_mores (last most : Nat) : ∀ (l : List UInt8) (i acc : Nat), (∀ c ∈ l, 128 ≤ c.toNat) → i + l.length ≤ last → ∀ rest, ∃ acc', rd last most (l ++ rest) i acc = rd last most rest (i + l.length) acc' := by
  intro l
  induction l with
  | nil => intro i acc _ _ rest; exact ⟨acc, rfl⟩
  | cons c r ih =>
    intro i acc h hi rest
    have hc := h c (by simp)
    simp only [List.length_cons] at hi
    rw [List.cons_append, rd_more (by omega) (by omega) (by omega)]
    obtain ⟨acc', e⟩ := ih (i + 1) (acc + c.toNat % 128 * 2 ^ (7 * i)) (fun x hx => h x (by simp [hx])) (by omega) rest
    exact ⟨acc', by rw [e, List.length_cons]; congr 1; omega⟩
/-- a number with superfluous groups of zeros -/
theorem rd_minimal (last most : Nat) (l : List UInt8) (h : ∀ c ∈ l, 128 ≤ c.toNat) (h0 : 0 < l.length) (hl : l.length < last) : rd last most (l ++ [0]) 0 0 = (0, 0, 4) := by
  obtain ⟨acc, e⟩ := rd_mores last most l 0 0 h (by omega) [0]
  rw [e, rd_form (by simp) ⟨rfl, by omega⟩]
theorem leb_init (v : Nat) : ∃ i z, leb v = i ++ [z] ∧ z.toNat < 128 ∧ ∀ c ∈ i, 128 ≤ c.toNat := by
  induction v using Nat.strongRecOn with
  | _ v ih =>
    by_cases hs : v < 128
    · exact ⟨[], UInt8.ofNat v, by rw [leb_small hs]; rfl, by rw [ofNat_small (by omega)]; exact hs, by simp⟩
    · obtain ⟨i, z, e, hz, hi⟩ := ih (v / 128) (by omega)
      refine ⟨UInt8.ofNat (v % 128 + 128) :: i, z, by rw [leb_big hs, e]; rfl, hz, ?_⟩
      intro c hc
      rcases List.mem_cons.1 hc with rfl | hc
      · rw [ofNat_small (by omega)]; omega
      · exact hi c hc
theorem leb_mono : ∀ u v : Nat, u ≤ v → (leb u).length ≤ (leb v).length := by
  intro u
  induction u using Nat.strongRecOn with
  | _ u ih =>
    intro v h
    by_cases hu : u < 128
    · rw [leb_small hu]; exact leb_pos v
    · rw [leb_big hu, leb_big (show ¬ v < 128 by omega)]
      simp only [List.length_cons]
      have := ih (u / 128) (by omega) (v / 128) (by omega)
      omega
theorem leb_double (u : Nat) : (leb u).length ≤ (leb (2 * u)).length ∧ (leb (2 * u)).length ≤ (leb u).length + 1 := by
  refine ⟨leb_mono _ _ (by omega), ?_⟩
  have h : (leb (2 * u)).length ≤ (leb (128 * u + 128)).length := leb_mono _ _ (by omega)
  induction u using Nat.strongRecOn with
  | _ u ih =>
    by_cases hu : u < 128
    · rw [leb_small hu]
      exact leb_len 1 (2 * u) (by omega)
    · rw [leb_big hu, leb_big (show ¬ 2 * u < 128 by omega)]
      simp only [List.length_cons]
      have h1 : (leb (2 * u / 128)).length ≤ (leb (2 * (u / 128) + 1)).length := leb_mono _ _ (by omega)
      have h2 : (leb (2 * (u / 128) + 1)).length ≤ (leb (u / 128)).length + 1 := by
        clear ih h h1
        generalize u / 128 = x
        induction x using Nat.strongRecOn with
        | _ x ih =>
          by_cases hx : x < 128
          · rw [leb_small hx]
            exact leb_len 1 (2 * x + 1) (by omega)
          · rw [leb_big hx, leb_big (show ¬ 2 * x + 1 < 128 by omega)]
            simp only [List.length_cons]
            have h3 : (leb ((2 * x + 1) / 128)).length ≤ (leb (2 * (x / 128) + 1)).length := leb_mono _ _ (by omega)
            have h4 := ih (x / 128) (by omega)
            omega
      omega
end Go.Proofs.Ytopanbcodfkedaa
