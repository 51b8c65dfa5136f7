/- Decoding of datagrams in plain words: what is decoded, and that its packet has this very datagram. No walk here. -/
import Derived.Test.YtnobepobalpccaaPacketC
import Derived.Test.YtnobepobalpccaaPlain3
namespace Go.Proofs.Ytnobepobalpccaa
set_option linter.unusedVariables false

/-- the numbers behind the first byte -/
def pos (l : List UInt8) : Nat → Int
  | 0 => 1
  | j + 1 => (uintR l (pos l j)).2.1
def val (l : List UInt8) (j : Nat) : Int := (uintR l (pos l j)).1
def err (l : List UInt8) (j : Nat) : Int := (uintR l (pos l j)).2.2
/-- the five numbers can be read, and the last is the length of the rest -/
def okL (l : List UInt8) : Prop := (∀ i, i < 5 → err l i = 0) ∧ val l 4 = (l.length : Int) - pos l 5
def pktL (l : List UInt8) : Pkt := ⟨((l.getD 0 0).toNat : Int), val l 0, val l 1, val l 2, val l 3, l.drop (pos l 5).toNat⟩
theorem pos_next {l : List UInt8} {j : Nat} (h : err l j = 0) : 0 ≤ pos l j ∧ pos l j < pos l (j + 1) ∧ pos l (j + 1) ≤ l.length := uintR_next h
theorem pos_range {l : List UInt8} {j : Nat} (h : ∀ i, i < j → err l i = 0) (h1 : 1 ≤ l.length) : 1 ≤ pos l j ∧ pos l j ≤ l.length := by
  induction j with
  | zero => exact ⟨by simp [pos], by simp [pos]; omega⟩
  | succ j ih =>
    have h2 := ih fun i hi => h i (by omega)
    have h3 := pos_next (h j (by omega))
    omega
theorem val_ok {l : List UInt8} {j : Nat} (h : err l j = 0) : 0 ≤ val l j ∧ val l j < 9223372036854775808 ∧ l.drop (pos l j).toNat = uintB (val l j) ++ l.drop (pos l (j + 1)).toNat := by
  obtain ⟨h1, h2, h3⟩ := uintR_inv h
  have h1' : 0 ≤ val l j := h1
  refine ⟨h1, h2, ?_⟩
  rw [uintB, if_neg (by omega)]
  exact h3
theorem okL_body {l : List UInt8} (h : okL l) (h1 : 1 ≤ l.length) : ((pktL l).body.length : Int) = val l 4 := by
  have h2 := pos_range (j := 5) h.1 h1
  have h3 := h.2
  simp only [pktL, List.length_drop]
  omega
/-- the packet that is read has these bytes -/
theorem okL_pre {l : List UInt8} (h : okL l) (h1 : 1 ≤ l.length) : preP (pktL l) 5 ++ (pktL l).body = l := by
  have e0 := (val_ok (h.1 0 (by omega))).2.2
  have e1 := (val_ok (h.1 1 (by omega))).2.2
  have e2 := (val_ok (h.1 2 (by omega))).2.2
  have e3 := (val_ok (h.1 3 (by omega))).2.2
  have e4 := (val_ok (h.1 4 (by omega))).2.2
  have hb := okL_body h h1
  have hk : kindB (pktL l) = l[0] := by
    simp [kindB, pktL, List.getD, List.getElem?_eq_getElem (show 0 < l.length by omega)]
  have hp : preP (pktL l) 5 = [kindB (pktL l)] ++ uintB (val l 0) ++ uintB (val l 1) ++ uintB (val l 2) ++ uintB (val l 3) ++ uintB ((pktL l).body.length : Int) := rfl
  rw [hp, hb, hk]
  have e : l = [l[0]] ++ l.drop (pos l 0).toNat := by
    have : (pos l 0).toNat = 1 := rfl
    rw [this]
    have h5 := List.drop_eq_getElem_cons (show 0 < l.length by omega)
    rw [List.drop_zero] at h5
    exact h5
  have eb : (pktL l).body = l.drop (pos l 5).toNat := rfl
  rw [eb]
  refine Eq.trans ?_ e.symm
  rw [e0, e1, e2, e3, e4]
  simp only [List.append_assoc]

def hiV (b : List UInt8) : Nat := (b.getD (b.length - 2) 0).toNat
def loV (b : List UInt8) : Nat := (b.getD (b.length - 1) 0).toNat
def cutB2 (b : List UInt8) : List UInt8 := b.take (b.length - 2)
/-- the check is right -/
def crcOK (b : List UInt8) : Prop := crcL 65535 (cutB2 b) = hiV b * 256 + loV b
theorem crcOK_tail {b : List UInt8} (h : crcOK b) (h3 : 3 ≤ b.length) : b = cutB2 b ++ sumB (cutB2 b) := by
  have h1 := (b.getD (b.length - 2) 0).toNat_lt
  have h2 := (b.getD (b.length - 1) 0).toNat_lt
  have e1 : hiB (crcL 65535 (cutB2 b)) = b[b.length - 2] := by
    rw [hiB, show crcL 65535 (cutB2 b) = hiV b * 256 + loV b from h]
    have : (hiV b * 256 + loV b) / 256 = hiV b := by
      have : loV b < 256 := h2
      omega
    rw [this, hiV]
    simp [List.getD, List.getElem?_eq_getElem (show b.length - 2 < b.length by omega)]
  have e2 : loB (crcL 65535 (cutB2 b)) = b[b.length - 1] := by
    rw [loB, show crcL 65535 (cutB2 b) = hiV b * 256 + loV b from h]
    have : (hiV b * 256 + loV b) % 256 = loV b := by
      have : loV b < 256 := h2
      omega
    rw [this, loV]
    simp [List.getD, List.getElem?_eq_getElem (show b.length - 1 < b.length by omega)]
  rw [sumB, e1, e2, cutB2]
  have e3 := List.take_append_drop (b.length - 2) b
  have e4 : b.drop (b.length - 2) = [b[b.length - 2], b[b.length - 1]] := by
    rw [List.drop_eq_getElem_cons (show b.length - 2 < b.length by omega)]
    congr 1
    rw [show b.length - 2 + 1 = b.length - 1 by omega, List.drop_eq_getElem_cons (show b.length - 1 < b.length by omega), List.drop_of_length_le (by omega)]
  rw [e4] at e3
  exact e3.symm
/-- what is decoded -/
def pk0 : Pkt := ⟨0, 0, 0, 0, 0, []⟩
def DecIs (b : List UInt8) (p : Pkt) (er : Int) : Prop :=
  (6060 < b.length ∧ p = pk0 ∧ er = 5) ∨ (b.length ≤ 6060 ∧ (b.length < 3 ∨ ¬ crcOK b) ∧ p = pk0 ∧ er = 28) ∨
  (b.length ≤ 6060 ∧ 3 ≤ b.length ∧ crcOK b ∧ ((okL (cutB2 b) ∧ rightP (pktL (cutB2 b)) ∧ p = pktL (cutB2 b) ∧ er = 0) ∨ (¬ (okL (cutB2 b) ∧ rightP (pktL (cutB2 b))) ∧ p = pk0 ∧ er = 4)))
theorem DecIs.one {b : List UInt8} {p q : Pkt} {e f : Int} (h : DecIs b p e) (k : DecIs b q f) : p = q ∧ e = f := by
  rcases h with ⟨a1, a2, a3⟩ | ⟨a1, a2, a3, a4⟩ | ⟨a1, a2, a3, ⟨a4, a5, a6, a7⟩ | ⟨a4, a5, a6⟩⟩ <;> rcases k with ⟨b1, b2, b3⟩ | ⟨b1, b2, b3, b4⟩ | ⟨b1, b2, b3, ⟨b4, b5, b6, b7⟩ | ⟨b4, b5, b6⟩⟩
  all_goals first
    | (exfalso; omega)
    | (subst_vars; exact ⟨rfl, rfl⟩)
    | (exfalso; rcases a2 with h | h; omega; exact h b3)
    | (exfalso; rcases b2 with h | h; omega; exact h a3)
    | exact absurd ⟨a4, a5⟩ b4
    | exact absurd ⟨b4, b5⟩ a4
theorem cutB2_len {b : List UInt8} (h : 3 ≤ b.length) : (cutB2 b).length = b.length - 2 := by simp [cutB2]
theorem dec_enc {b : List UInt8} (h3 : 3 ≤ b.length) (h : crcOK b) (ho : okL (cutB2 b)) : encP (pktL (cutB2 b)) = b := by
  rw [encP, okL_pre ho (by rw [cutB2_len h3]; omega)]
  exact (crcOK_tail h h3).symm
end Go.Proofs.Ytnobepobalpccaa
