/- A right packet is decoded from its own datagram. No walk here. -/
import Derived.Test.YtnobepobalpccaaPacketH
namespace Go.Proofs.Ytnobepobalpccaa
set_option linter.unusedVariables false

theorem uintB_leb {v : Int} (h : 0 ≤ v) : uintB v = leb v.toNat := by rw [uintB, if_neg (by omega)]
/-- what stands behind number j -/
def sufP (p : Pkt) : Nat → List UInt8
  | 0 => uintB (numE p 0) ++ (uintB (numE p 1) ++ (uintB (numE p 2) ++ (uintB (numE p 3) ++ (uintB (numE p 4) ++ p.body))))
  | 1 => uintB (numE p 1) ++ (uintB (numE p 2) ++ (uintB (numE p 3) ++ (uintB (numE p 4) ++ p.body)))
  | 2 => uintB (numE p 2) ++ (uintB (numE p 3) ++ (uintB (numE p 4) ++ p.body))
  | 3 => uintB (numE p 3) ++ (uintB (numE p 4) ++ p.body)
  | 4 => uintB (numE p 4) ++ p.body
  | _ => p.body
theorem pre_suf (p : Pkt) (j : Nat) (hj : j ≤ 5) : preP p 5 ++ p.body = preP p j ++ sufP p j := by
  rcases (show j = 0 ∨ j = 1 ∨ j = 2 ∨ j = 3 ∨ j = 4 ∨ j = 5 by omega) with rfl | rfl | rfl | rfl | rfl | rfl <;> simp only [preP, sufP, List.append_assoc]
theorem suf_step (p : Pkt) (j : Nat) (hj : j < 5) : sufP p j = uintB (numE p j) ++ sufP p (j + 1) := by
  rcases (show j = 0 ∨ j = 1 ∨ j = 2 ∨ j = 3 ∨ j = 4 by omega) with rfl | rfl | rfl | rfl | rfl <;> rfl
theorem read_own {p : Pkt} (h : rightP p) : ∀ j, j ≤ 5 → pos (preP p 5 ++ p.body) j = ((preP p j).length : Int) ∧ ∀ i, i < j → err (preP p 5 ++ p.body) i = 0 ∧ val (preP p 5 ++ p.body) i = numE p i := by
  intro j
  induction j with
  | zero => intro _; exact ⟨rfl, fun i hi => absurd hi (by omega)⟩
  | succ j ih =>
    intro hj
    obtain ⟨hp, hi⟩ := ih (by omega)
    have hn := numE_ok h j
    have hl := uintR_leb (v := (numE p j).toNat) (by omega) (preP p j) (sufP p (j + 1))
    have e : preP p 5 ++ p.body = preP p j ++ (leb (numE p j).toNat ++ sufP p (j + 1)) := by
      rw [pre_suf p j (by omega), suf_step p j (by omega), uintB_leb hn.1]
    have hu : uintR (preP p 5 ++ p.body) (pos (preP p 5 ++ p.body) j) = (numE p j, ((preP p j).length : Int) + (leb (numE p j).toNat).length, 0) := by
      rw [hp, e, hl]
      simp only [Prod.mk.injEq, and_true]
      omega
    refine ⟨?_, fun i hi' => ?_⟩
    · show (uintR (preP p 5 ++ p.body) (pos (preP p 5 ++ p.body) j)).2.1 = _
      rw [hu]
      simp only [preP, List.length_append, uintB_leb hn.1]
      omega
    · by_cases e2 : i = j
      · subst e2
        exact ⟨by show (uintR _ _).2.2 = 0; rw [hu], by show (uintR _ _).1 = _; rw [hu]⟩
      · exact hi i (by omega)
theorem own_ok {p : Pkt} (h : rightP p) : okL (preP p 5 ++ p.body) ∧ pktL (preP p 5 ++ p.body) = p := by
  obtain ⟨hp, hi⟩ := read_own h 5 (by omega)
  have hb := h.1
  simp only [badP, not_or] at hb
  refine ⟨⟨fun i h5 => (hi i h5).1, ?_⟩, ?_⟩
  · rw [(hi 4 (by omega)).2, hp]
    simp only [numE, List.length_append]
    omega
  · unfold pktL
    rw [(hi 0 (by omega)).2, (hi 1 (by omega)).2, (hi 2 (by omega)).2, (hi 3 (by omega)).2, hp, Int.toNat_natCast, List.drop_left]
    have hk : (((preP p 5 ++ p.body).getD 0 0).toNat : Int) = p.kind := by
      have e : preP p 5 ++ p.body = kindB p :: sufP p 0 := pre_suf p 0 (by omega)
      rw [e]
      simp only [List.getD_cons_zero, kindB]
      rw [ofNat_small (by omega)]
      omega
    rw [hk]
    rfl
theorem enc_len {p : Pkt} (h : rightP p) : 8 ≤ (encP p).length ∧ (encP p).length ≤ 6060 := by
  have h1 := preP_len h 5
  have hb := h.1
  simp only [badP, not_or] at hb
  have h2 : ∀ j, 1 ≤ (uintB (numE p j)).length := fun j => by rw [uintB_leb (numE_ok h j).1]; exact leb_pos _
  have a0 := h2 0
  have a1 := h2 1
  have a2 := h2 2
  have a3 := h2 3
  have a4 := h2 4
  have h3 : (preP p 5).length = 1 + (uintB (numE p 0)).length + (uintB (numE p 1)).length + (uintB (numE p 2)).length + (uintB (numE p 3)).length + (uintB (numE p 4)).length := by
    simp only [preP, List.length_append]; rfl
  have h4 : ∀ j, (uintB (numE p j)).length ≤ 5 := fun j => by
    rw [uintB_leb (numE_ok h j).1]
    exact leb_len 4 _ (by have := (numE_ok h j).2; omega)
  have b0 := h4 0
  have b1 := h4 1
  have b2 := h4 2
  have b3 := h4 3
  have b4 := h4 4
  simp only [encP, sumB, List.length_append, List.length_cons, List.length_nil]
  omega
theorem enc_cut {p : Pkt} : cutB2 (encP p) = preP p 5 ++ p.body := by
  unfold cutB2 encP
  rw [List.length_append, show (sumB (preP p 5 ++ p.body)).length = 2 from rfl, Nat.add_sub_cancel, List.take_left]
theorem enc_crc (p : Pkt) : crcOK (encP p) := by
  unfold crcOK
  rw [enc_cut]
  have hl := crcL_lt (preP p 5 ++ p.body) (r := 65535) (by omega)
  have e1 : hiV (encP p) = crcL 65535 (preP p 5 ++ p.body) / 256 := by
    unfold hiV encP
    generalize preP p 5 ++ p.body = L at *
    have : (L ++ sumB L).length - 2 = L.length := by simp [sumB]
    rw [this, List.getD_eq_getElem?_getD, List.getElem?_append_right (Nat.le_refl _), Nat.sub_self]
    simp only [sumB, List.getElem?_cons_zero, Option.getD_some, hiB]
    exact ofNat_small (by omega)
  have e2 : loV (encP p) = crcL 65535 (preP p 5 ++ p.body) % 256 := by
    unfold loV encP
    generalize preP p 5 ++ p.body = L at *
    have : (L ++ sumB L).length - 1 = L.length + 1 := by simp [sumB]
    rw [this, List.getD_eq_getElem?_getD, List.getElem?_append_right (by omega), Nat.add_sub_cancel_left]
    simp only [sumB, List.getElem?_cons_succ, List.getElem?_cons_zero, Option.getD_some, loB]
    exact ofNat_small (by omega)
  rw [e1, e2]
  omega
theorem dec_own {p q : Pkt} {er : Int} (h : rightP p) (hd : DecIs (encP p) q er) : q = p ∧ er = 0 := by
  have hl := enc_len h
  obtain ⟨ho, hk⟩ := own_ok h
  have hs : DecIs (encP p) p 0 := .inr (.inr ⟨hl.2, by omega, enc_crc p, .inl ⟨by rw [enc_cut]; exact ho, by rw [enc_cut, hk]; exact h, by rw [enc_cut, hk], rfl⟩⟩)
  exact hd.one hs
end Go.Proofs.Ytnobepobalpccaa
