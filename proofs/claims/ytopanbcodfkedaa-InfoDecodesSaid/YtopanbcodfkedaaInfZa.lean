/- What the specification's Decode computes (plain): it is what info.Decode computes. -/
import Derived.Test.YtopanbcodfkedaaRdr
import Derived.Test.YtopanbcodfkedaaInfK
namespace Go.Proofs.Ytopanbcodfkedaa
open Go.RowKit
set_option linter.unusedVariables false
set_option linter.unusedSimpArgs false

def tagF (u : Int × RS18) : RS18 := if u.2.e = 0 ∧ (u.1 < 1 ∨ 63 < u.1) then failS 4 u.2 else u.2
def kidF (u : Int × RS18) : RS18 := if 1 < u.1 then failS 4 u.2 else u.2
def cntF (u : Int × RS18) : RS18 := if 12 < u.1 then failS 5 u.2 else u.2
def frmF (u : Int × RS18) : RS18 := if u.2.e = 0 ∧ (u.1 < 1 ∨ 4 < u.1) then failS 4 u.2 else u.2
def dupF (l : List (Int × Int)) (x : Int) (s : RS18) : RS18 := if x ∈ l.map Prod.fst then failS 9 s else s
/-- a shape that the specification reads -/
structure PSh where
  tag : Int
  kids : Int
  ps : List (Int × Int)
def namesS (b : List UInt8) : Nat → List (Int × Int) → RS18 → List (Int × Int) × RS18
  | 0, l, s => (l, s)
  | k + 1, l, s => if s.e ≠ 0 then (l, s) else
    namesS b k (l ++ [((uintS b s).1, (uintS b (dupF l (uintS b s).1 (tagF (uintS b s)))).1)]) (frmF (uintS b (dupF l (uintS b s).1 (tagF (uintS b s)))))
def shp0 (n : Nat) (s : RS18) : RS18 := if 200 ≤ n then failS 5 s else s
def shpS (b : List UInt8) (n : Nat) (s : RS18) : PSh × RS18 :=
  let t := uintS b (shp0 n s)
  let k := uintS b (tagF t)
  let c := uintS b (kidF k)
  let r := namesS b c.1.toNat [] (cntF c)
  (⟨t.1, k.1, r.1⟩, r.2)
def shpsS (b : List UInt8) : Nat → List PSh → RS18 → List PSh × RS18
  | 0, Z, s => (Z, s)
  | f + 1, Z, s => if s.e ≠ 0 ∨ ¬ s.p < b.length then (Z, s) else shpsS b f (Z ++ [(shpS b Z.length s).1]) (shpS b Z.length s).2
def txtF (b : List UInt8) (s : RS18) : RS18 := failS (textR b s.p).2.2 ⟨(textR b s.p).2.1, 0⟩
def attS (b : List UInt8) (nm fm : Int) (s : RS18) : Att × RS18 :=
  if fm = 1 then (⟨nm, fm, (smallS b s).1, ByteArray.empty⟩, (smallS b s).2)
  else if fm = 2 then (⟨nm, fm, (intS b s).1, ByteArray.empty⟩, (intS b s).2)
  else if fm = 3 then (if s.e = 0 then (⟨nm, fm, 0, ⟨(textR b s.p).1.toArray⟩⟩, if 40 < (textR b s.p).1.length then failS 5 (txtF b s) else txtF b s) else (⟨nm, fm, 0, ByteArray.empty⟩, s))
  else (⟨nm, fm, 1, ByteArray.empty⟩, s)
def attsS (b : List UInt8) : List (Int × Int) → List Att → RS18 → List Att × RS18
  | [], l, s => (l, s)
  | x :: r, l, s => if s.e ≠ 0 then (l, s) else attsS b r (l ++ [(attS b x.1 x.2 s).1]) (attS b x.1 x.2 s).2
def treeS (S : List PSh) (b : List UInt8) : Nat → List Ent → Int → Bool → RS18 → List Ent × RS18
  | 0, _, _, _, s => ([], s)
  | f + 1, l, d, fr, s =>
    if s.e ≠ 0 then ([], s)
    else if (uintS b s).2.e ≠ 0 then ([], (uintS b s).2)
    else if (uintS b s).1 = 0 then (if fr = true then ([], failS 4 (uintS b s).2) else if d - 1 = 0 then (l, (uintS b s).2) else treeS S b f l (d - 1) fr (uintS b s).2)
    else match S[((uintS b s).1 - 1).toNat]? with
      | none => ([], failS 12 (uintS b s).2)
      | some z => if 4000 ≤ l.length ∨ 32 < d then ([], failS 5 (uintS b s).2)
        else if z.kids = 1 then treeS S b f (l ++ [⟨d, z.tag, (attsS b z.ps [] (uintS b s).2).1⟩]) (d + 1) true (attsS b z.ps [] (uintS b s).2).2
        else if d = 0 then (l ++ [⟨d, z.tag, (attsS b z.ps [] (uintS b s).2).1⟩], (attsS b z.ps [] (uintS b s).2).2)
        else treeS S b f (l ++ [⟨d, z.tag, (attsS b z.ps [] (uintS b s).2).1⟩]) d false (attsS b z.ps [] (uintS b s).2).2
def endF (b : List UInt8) (s : RS18) : RS18 := if s.e = 0 ∧ s.p < b.length then failS 4 s else s
def decS21 (a b : List UInt8) : Except Int (List Ent) :=
  if 60000 < a.length ∨ 60000 < b.length then .error 5
  else if (shpsS a 201 [] ⟨0, 0⟩).2.e ≠ 0 then .error (shpsS a 201 [] ⟨0, 0⟩).2.e
  else if (endF b (treeS (shpsS a 201 [] ⟨0, 0⟩).1 b (b.length + 1) [] 0 true ⟨0, 0⟩).2).e ≠ 0 then .error (endF b (treeS (shpsS a 201 [] ⟨0, 0⟩).1 b (b.length + 1) [] 0 true ⟨0, 0⟩).2).e
  else .ok (treeS (shpsS a 201 [] ⟨0, 0⟩).1 b (b.length + 1) [] 0 true ⟨0, 0⟩).1
/-! errors stay -/
theorem failS_dead {er : Int} {s : RS18} (h : s.e ≠ 0) : failS er s = s := by unfold failS; rw [if_neg h]
theorem failS_idem (er : Int) (s : RS18) (h : er ≠ 0) : failS er (failS er s) = failS er s := by
  unfold failS
  by_cases h0 : s.e = 0
  · rw [if_pos h0, if_neg h]
  · rw [if_neg h0, if_neg h0]
theorem failS_live {er p : Int} : failS er ⟨p, 0⟩ = ⟨p, er⟩ := by unfold failS; rw [if_pos rfl]
theorem uintS_dead {b : List UInt8} {s : RS18} (h : s.e ≠ 0) : uintS b s = (0, s) := by unfold uintS; rw [if_pos h]
theorem tagF_dead {s : RS18} {v : Int} (h : s.e ≠ 0) : tagF (v, s) = s := by unfold tagF; rw [if_neg (fun x => h x.1)]
theorem frmF_dead {s : RS18} {v : Int} (h : s.e ≠ 0) : frmF (v, s) = s := by unfold frmF; rw [if_neg (fun x => h x.1)]
theorem kidF_dead {s : RS18} : kidF (0, s) = s := by unfold kidF; rw [if_neg (by simp)]
theorem cntF_dead {s : RS18} : cntF (0, s) = s := by unfold cntF; rw [if_neg (by simp)]
theorem dupF_dead {l : List (Int × Int)} {x : Int} {s : RS18} (h : s.e ≠ 0) : dupF l x s = s := by
  unfold dupF
  split
  · exact failS_dead h
  · rfl
theorem namesS_dead {b : List UInt8} {k : Nat} {l : List (Int × Int)} {s : RS18} (h : s.e ≠ 0) : namesS b k l s = (l, s) := by
  cases k with
  | zero => rfl
  | succ k => unfold namesS; rw [if_pos h]
theorem shpsS_dead {b : List UInt8} {k : Nat} {Z : List PSh} {s : RS18} (h : s.e ≠ 0) : shpsS b k Z s = (Z, s) := by
  cases k with
  | zero => rfl
  | succ k => unfold shpsS; rw [if_pos (.inl h)]
theorem attsS_dead {b : List UInt8} {r : List (Int × Int)} {l : List Att} {s : RS18} (h : s.e ≠ 0) : attsS b r l s = (l, s) := by
  cases r with
  | nil => rfl
  | cons x r => unfold attsS; rw [if_pos h]
theorem treeS_dead {S : List PSh} {b : List UInt8} {f : Nat} {l : List Ent} {d : Int} {fr : Bool} {s : RS18} (h : s.e ≠ 0) : treeS S b f l d fr s = ([], s) := by
  cases f with
  | zero => rfl
  | succ f => unfold treeS; rw [if_pos h]
theorem uintS_live {b : List UInt8} {p : Int} : uintS b ⟨p, 0⟩ = if (uintR b p).2.2 ≠ 0 then (0, ⟨p, (uintR b p).2.2⟩) else ((uintR b p).1, ⟨(uintR b p).2.1, 0⟩) := by
  unfold uintS
  rw [if_neg (by simp)]
theorem uintR_nonneg {b : List UInt8} {p : Int} : 0 ≤ (uintR b p).1 := by unfold uintR; simp
/-! numbers between -/
theorem bet_tag {b : List UInt8} {p : Int} : (∀ er, betR 1 63 4 b p = .error er → (tagF (uintS b ⟨p, 0⟩)).e = er ∧ er ≠ 0) ∧ (∀ v q, betR 1 63 4 b p = .ok (v, q) → uintS b ⟨p, 0⟩ = (v, ⟨q, 0⟩) ∧ tagF (v, ⟨q, 0⟩) = ⟨q, 0⟩ ∧ 1 ≤ v ∧ v ≤ 63) := by
  have hnn := uintR_nonneg (b := b) (p := p)
  unfold betR
  rw [uintS_live]
  by_cases h : (uintR b p).2.2 ≠ 0
  · rw [if_pos h, if_pos h]
    refine ⟨fun er e => ?_, fun v q e => by cases e⟩
    injection e with e
    rw [← e, tagF_dead h]
    exact ⟨rfl, h⟩
  · rw [if_neg h, if_neg h]
    by_cases h2 : (uintR b p).1 < 1 ∨ 63 < (uintR b p).1
    · rw [if_pos h2]
      refine ⟨fun er e => ?_, fun v q e => by cases e⟩
      injection e with e
      subst e
      unfold tagF
      rw [if_pos (by first | exact ⟨rfl, h2⟩ | (simp only; omega)), failS_live]
      exact ⟨rfl, by decide⟩
    · rw [if_neg h2]
      refine ⟨fun er e => (by cases e), fun v q e => ?_⟩
      injection e with e
      injection e with e1 e2
      refine ⟨by rw [e1, e2], ?_, by omega, by omega⟩
      unfold tagF
      rw [if_neg (by first | (intro hh; exact h2 (by rw [e1]; exact hh.2)) | (simp only; omega))]
theorem bet_kid {b : List UInt8} {p : Int} : (∀ er, betR 0 1 4 b p = .error er → (kidF (uintS b ⟨p, 0⟩)).e = er ∧ er ≠ 0) ∧ (∀ v q, betR 0 1 4 b p = .ok (v, q) → uintS b ⟨p, 0⟩ = (v, ⟨q, 0⟩) ∧ kidF (v, ⟨q, 0⟩) = ⟨q, 0⟩ ∧ 0 ≤ v ∧ v ≤ 1) := by
  have hnn := uintR_nonneg (b := b) (p := p)
  unfold betR
  rw [uintS_live]
  by_cases h : (uintR b p).2.2 ≠ 0
  · rw [if_pos h, if_pos h]
    refine ⟨fun er e => ?_, fun v q e => by cases e⟩
    injection e with e
    rw [← e, kidF_dead]
    exact ⟨rfl, h⟩
  · rw [if_neg h, if_neg h]
    by_cases h2 : (uintR b p).1 < 0 ∨ 1 < (uintR b p).1
    · rw [if_pos h2]
      refine ⟨fun er e => ?_, fun v q e => by cases e⟩
      injection e with e
      subst e
      unfold kidF
      rw [if_pos (by first | exact ⟨rfl, h2⟩ | (simp only; omega)), failS_live]
      exact ⟨rfl, by decide⟩
    · rw [if_neg h2]
      refine ⟨fun er e => (by cases e), fun v q e => ?_⟩
      injection e with e
      injection e with e1 e2
      refine ⟨by rw [e1, e2], ?_, by omega, by omega⟩
      unfold kidF
      rw [if_neg (by first | (intro hh; exact h2 (by rw [e1]; exact hh.2)) | (simp only; omega))]
theorem bet_cnt {b : List UInt8} {p : Int} : (∀ er, betR 0 12 5 b p = .error er → (cntF (uintS b ⟨p, 0⟩)).e = er ∧ er ≠ 0) ∧ (∀ v q, betR 0 12 5 b p = .ok (v, q) → uintS b ⟨p, 0⟩ = (v, ⟨q, 0⟩) ∧ cntF (v, ⟨q, 0⟩) = ⟨q, 0⟩ ∧ 0 ≤ v ∧ v ≤ 12) := by
  have hnn := uintR_nonneg (b := b) (p := p)
  unfold betR
  rw [uintS_live]
  by_cases h : (uintR b p).2.2 ≠ 0
  · rw [if_pos h, if_pos h]
    refine ⟨fun er e => ?_, fun v q e => by cases e⟩
    injection e with e
    rw [← e, cntF_dead]
    exact ⟨rfl, h⟩
  · rw [if_neg h, if_neg h]
    by_cases h2 : (uintR b p).1 < 0 ∨ 12 < (uintR b p).1
    · rw [if_pos h2]
      refine ⟨fun er e => ?_, fun v q e => by cases e⟩
      injection e with e
      subst e
      unfold cntF
      rw [if_pos (by first | exact ⟨rfl, h2⟩ | (simp only; omega)), failS_live]
      exact ⟨rfl, by decide⟩
    · rw [if_neg h2]
      refine ⟨fun er e => (by cases e), fun v q e => ?_⟩
      injection e with e
      injection e with e1 e2
      refine ⟨by rw [e1, e2], ?_, by omega, by omega⟩
      unfold cntF
      rw [if_neg (by first | (intro hh; exact h2 (by rw [e1]; exact hh.2)) | (simp only; omega))]
theorem bet_frm {b : List UInt8} {p : Int} : (∀ er, betR 1 4 4 b p = .error er → (frmF (uintS b ⟨p, 0⟩)).e = er ∧ er ≠ 0) ∧ (∀ v q, betR 1 4 4 b p = .ok (v, q) → uintS b ⟨p, 0⟩ = (v, ⟨q, 0⟩) ∧ frmF (v, ⟨q, 0⟩) = ⟨q, 0⟩ ∧ 1 ≤ v ∧ v ≤ 4) := by
  have hnn := uintR_nonneg (b := b) (p := p)
  unfold betR
  rw [uintS_live]
  by_cases h : (uintR b p).2.2 ≠ 0
  · rw [if_pos h, if_pos h]
    refine ⟨fun er e => ?_, fun v q e => by cases e⟩
    injection e with e
    rw [← e, frmF_dead h]
    exact ⟨rfl, h⟩
  · rw [if_neg h, if_neg h]
    by_cases h2 : (uintR b p).1 < 1 ∨ 4 < (uintR b p).1
    · rw [if_pos h2]
      refine ⟨fun er e => ?_, fun v q e => by cases e⟩
      injection e with e
      subst e
      unfold frmF
      rw [if_pos (by first | exact ⟨rfl, h2⟩ | (simp only; omega)), failS_live]
      exact ⟨rfl, by decide⟩
    · rw [if_neg h2]
      refine ⟨fun er e => (by cases e), fun v q e => ?_⟩
      injection e with e
      injection e with e1 e2
      refine ⟨by rw [e1, e2], ?_, by omega, by omega⟩
      unfold frmF
      rw [if_neg (by first | (intro hh; exact h2 (by rw [e1]; exact hh.2)) | (simp only; omega))]
def pairs (l : List Att) : List (Int × Int) := l.map (fun a => (a.name, a.form))
theorem pairs_snoc (l : List Att) (a : Att) : pairs (l ++ [a]) = pairs l ++ [(a.name, a.form)] := by simp [pairs]
theorem pairs_fst (l : List Att) : (pairs l).map Prod.fst = l.map Att.name := by simp [pairs]
theorem names_law {b : List UInt8} : ∀ (n : Nat) (l : List Att) (p : Int), (∀ er, attsD b n l p = .error er → (namesS b n (pairs l) ⟨p, 0⟩).2.e = er ∧ er ≠ 0) ∧ (∀ m q, attsD b n l p = .ok (m, q) → namesS b n (pairs l) ⟨p, 0⟩ = (pairs m, ⟨q, 0⟩))
  | 0, l, p => ⟨fun er e => (by cases e), fun m q e => by
    unfold attsD at e
    injection e with e
    injection e with e1 e2
    subst e1 e2
    rfl⟩
  | n + 1, l, p => by
    unfold namesS
    rw [if_neg (by simp)]
    unfold attsD attD
    rcases h1 : betR 1 63 4 b p with e1 | ⟨nm, q1⟩
    · obtain ⟨h2, h3⟩ := bet_tag.1 e1 h1
      refine ⟨fun er e => ?_, fun m q e => by cases e⟩
      injection e with e
      subst e
      have hd : (tagF (uintS b ⟨p, 0⟩)).e ≠ 0 := by rw [h2]; exact h3
      rw [dupF_dead hd, uintS_dead hd, frmF_dead hd, namesS_dead hd]
      exact ⟨h2, h3⟩
    · obtain ⟨h2, h3, _⟩ := bet_tag.2 nm q1 h1
      rw [h2, h3]
      simp only
      by_cases hs : seenA l nm = true
      · rw [if_pos hs]
        refine ⟨fun er e => ?_, fun m q e => by cases e⟩
        injection e with e
        subst e
        have hd : dupF (pairs l) nm ⟨q1, 0⟩ = ⟨q1, 9⟩ := by
          unfold dupF
          rw [if_pos (by rw [pairs_fst]; simpa [seenA] using hs), failS_live]
        have hd9 : (⟨q1, 9⟩ : RS18).e ≠ 0 := by simp
        rw [hd, uintS_dead hd9, frmF_dead hd9, namesS_dead hd9]
        exact ⟨rfl, by decide⟩
      · rw [if_neg hs]
        have hd : dupF (pairs l) nm ⟨q1, 0⟩ = ⟨q1, 0⟩ := by
          unfold dupF
          rw [if_neg (by rw [pairs_fst]; simpa [seenA] using hs)]
        rw [hd]
        rcases h4 : betR 1 4 4 b q1 with e1 | ⟨f, q2⟩
        · obtain ⟨h5, h6⟩ := bet_frm.1 e1 h4
          refine ⟨fun er e => ?_, fun m q e => by cases e⟩
          injection e with e
          subst e
          have hd : (frmF (uintS b ⟨q1, 0⟩)).e ≠ 0 := by rw [h5]; exact h6
          rw [namesS_dead hd]
          exact ⟨h5, h6⟩
        · obtain ⟨h5, h6, _⟩ := bet_frm.2 f q2 h4
          rw [h5, h6]
          have := names_law (b := b) n (l ++ [⟨nm, f, 0, ByteArray.empty⟩]) q2
          rw [pairs_snoc] at this
          exact this
def pshOf (s : Shp) : PSh := ⟨s.tag, if s.kids then 1 else 0, pairs s.attrs⟩
theorem abb_law {b : List UInt8} {n : Nat} (hn : n < 200) (p : Int) : (∀ er, abbD b p = .error er → (shpS b n ⟨p, 0⟩).2.e = er ∧ er ≠ 0) ∧ (∀ m q, abbD b p = .ok (m, q) → shpS b n ⟨p, 0⟩ = (pshOf m, ⟨q, 0⟩)) := by
  have h0 : shp0 n ⟨p, 0⟩ = ⟨p, 0⟩ := by unfold shp0; rw [if_neg (by omega)]
  unfold shpS abbD
  simp only
  rw [h0]
  rcases h1 : betR 1 63 4 b p with e1 | ⟨t, q1⟩
  · obtain ⟨h2, h3⟩ := bet_tag.1 e1 h1
    refine ⟨fun er e => ?_, fun m q e => by cases e⟩
    injection e with e
    subst e
    have hd : (tagF (uintS b ⟨p, 0⟩)).e ≠ 0 := by rw [h2]; exact h3
    rw [uintS_dead hd, kidF_dead, uintS_dead hd, cntF_dead, namesS_dead hd]
    exact ⟨h2, h3⟩
  · obtain ⟨h2, h3, _⟩ := bet_tag.2 t q1 h1
    rw [h2, h3]
    simp only
    rcases h1 : betR 0 1 4 b q1 with e1 | ⟨k, q2⟩
    · obtain ⟨h4, h5⟩ := bet_kid.1 e1 h1
      refine ⟨fun er e => ?_, fun m q e => by cases e⟩
      injection e with e
      subst e
      have hd : (kidF (uintS b ⟨q1, 0⟩)).e ≠ 0 := by rw [h4]; exact h5
      rw [uintS_dead hd, cntF_dead, namesS_dead hd]
      exact ⟨h4, h5⟩
    · obtain ⟨h4, h5, hk0, hk1⟩ := bet_kid.2 k q2 h1
      rw [h4, h5]
      simp only
      rcases h1 : betR 0 12 5 b q2 with e1 | ⟨c, q3⟩
      · obtain ⟨h6, h7⟩ := bet_cnt.1 e1 h1
        refine ⟨fun er e => ?_, fun m q e => by cases e⟩
        injection e with e
        subst e
        have hd : (cntF (uintS b ⟨q2, 0⟩)).e ≠ 0 := by rw [h6]; exact h7
        rw [namesS_dead hd]
        exact ⟨h6, h7⟩
      · obtain ⟨h6, h7, _⟩ := bet_cnt.2 c q3 h1
        rw [h6, h7]
        simp only
        have hl := names_law (b := b) c.toNat [] q3
        rcases h1 : attsD b c.toNat [] q3 with e1 | ⟨l, q4⟩
        · refine ⟨fun er e => ?_, fun m q e => by cases e⟩
          injection e with e
          subst e
          exact hl.1 e1 h1
        · refine ⟨fun er e => (by cases e), fun m q e => ?_⟩
          injection e with e
          injection e with ea eb
          subst ea eb
          have := hl.2 l q4 h1
          rw [show pairs ([] : List Att) = [] from rfl] at this
          rw [this]
          unfold pshOf
          simp only [Prod.mk.injEq, PSh.mk.injEq, true_and, and_true]
          by_cases hk : k = 1
          · subst hk; rfl
          · have : k = 0 := by omega
            subst this; rfl
theorem shps_law {b : List UInt8} : ∀ (f : Nat) (S : List Shp) (p : Int), f + S.length = 200 → (∀ er, shpsD b f S p = .error er → (shpsS b (f + 1) (S.map pshOf) ⟨p, 0⟩).2.e = er ∧ er ≠ 0) ∧ (∀ Z, shpsD b f S p = .ok Z → (shpsS b (f + 1) (S.map pshOf) ⟨p, 0⟩).1 = Z.map pshOf ∧ (shpsS b (f + 1) (S.map pshOf) ⟨p, 0⟩).2.e = 0)
  | 0, S, p, hf => by
    unfold shpsS shpsD
    by_cases hp : ¬ p < b.length
    · rw [if_pos hp, if_pos (.inr hp)]
      refine ⟨fun er e => (by cases e), fun Z e => ?_⟩
      injection e with e
      subst e
      exact ⟨rfl, rfl⟩
    · rw [if_neg hp, if_neg (fun h => h.elim (fun h => h rfl) hp)]
      refine ⟨fun er e => ?_, fun Z e => by cases e⟩
      injection e with e
      subst e
      have h0 : shp0 (S.map pshOf).length ⟨p, 0⟩ = ⟨p, 5⟩ := by
        unfold shp0
        rw [if_pos (by rw [List.length_map]; omega), failS_live]
      have hd : (⟨p, 5⟩ : RS18).e ≠ 0 := by simp
      have : (shpS b (S.map pshOf).length ⟨p, 0⟩).2 = ⟨p, 5⟩ := by
        unfold shpS
        simp only
        rw [h0, uintS_dead hd, tagF_dead hd, uintS_dead hd, kidF_dead, uintS_dead hd, cntF_dead, namesS_dead hd]
      rw [this]
      exact ⟨rfl, by decide⟩
  | f + 1, S, p, hf => by
    unfold shpsS shpsD
    by_cases hp : ¬ p < b.length
    · rw [if_pos hp, if_pos (.inr hp)]
      refine ⟨fun er e => (by cases e), fun Z e => ?_⟩
      injection e with e
      subst e
      exact ⟨rfl, rfl⟩
    · rw [if_neg hp, if_neg (fun h => h.elim (fun h => h rfl) hp)]
      have ha := abb_law (b := b) (n := (S.map pshOf).length) (by rw [List.length_map]; omega) p
      simp only
      rcases h1 : abbD b p with e1 | ⟨s, q⟩
      · obtain ⟨h2, h3⟩ := ha.1 e1 h1
        refine ⟨fun er e => ?_, fun Z e => by cases e⟩
        injection e with e
        subst e
        have hd : (shpS b (S.map pshOf).length ⟨p, 0⟩).2.e ≠ 0 := by rw [h2]; exact h3
        rw [shpsS_dead hd]
        exact ⟨h2, h3⟩
      · have h2 := ha.2 s q h1
        rw [h2]
        have := shps_law (b := b) f (S ++ [s]) q (by rw [List.length_append]; simp only [List.length_cons, List.length_nil]; omega)
        rw [List.map_append] at this
        exact this
/-- an attribute of a shape -/
def GoodA (a : Att) : Prop := (1 ≤ a.form ∧ a.form ≤ 4) ∧ a.value = 0 ∧ a.text = ByteArray.empty
theorem small_bet {b : List UInt8} {p : Int} : (∀ er, betR 0 1099511627776 2 b p = .error er → (smallS b ⟨p, 0⟩).2.e = er ∧ er ≠ 0) ∧ (∀ v q, betR 0 1099511627776 2 b p = .ok (v, q) → smallS b ⟨p, 0⟩ = (v, ⟨q, 0⟩)) := by
  have hnn := uintR_nonneg (b := b) (p := p)
  unfold betR smallS
  rw [uintS_live]
  by_cases h : (uintR b p).2.2 ≠ 0
  · rw [if_pos h, if_pos h]
    refine ⟨fun er e => ?_, fun v q e => by cases e⟩
    injection e with e
    rw [if_neg (by simp), ← e]
    exact ⟨rfl, h⟩
  · rw [if_neg h, if_neg h]
    by_cases h2 : 1099511627776 < (uintR b p).1
    · rw [if_pos (.inr h2), if_pos h2]
      refine ⟨fun er e => ?_, fun v q e => by cases e⟩
      injection e with e
      subst e
      exact ⟨rfl, by decide⟩
    · rw [if_neg (by omega), if_neg h2]
      refine ⟨fun er e => (by cases e), fun v q e => ?_⟩
      injection e with e
      injection e with e1 e2
      rw [e1, e2]
theorem val_law {b : List UInt8} {a : Att} (ha : GoodA a) (p : Int) : (∀ er, valD a b p = .error er → (attS b a.name a.form ⟨p, 0⟩).2.e = er ∧ er ≠ 0) ∧ (∀ m q, valD a b p = .ok (m, q) → attS b a.name a.form ⟨p, 0⟩ = (m, ⟨q, 0⟩)) := by
  obtain ⟨hf, hv, ht⟩ := ha
  unfold valD attS
  by_cases h1 : a.form = 1
  · rw [if_pos h1, if_pos h1]
    rcases h2 : betR 0 1099511627776 2 b p with e1 | ⟨v, q⟩
    · refine ⟨fun er e => ?_, fun m q e => by cases e⟩
      injection e with e
      subst e
      exact small_bet.1 e1 h2
    · refine ⟨fun er e => (by cases e), fun m q' e => ?_⟩
      injection e with e
      injection e with e1 e2
      subst e1 e2
      rw [small_bet.2 v q h2, ht]
  · rw [if_neg h1, if_neg h1]
    by_cases h2 : a.form = 2
    · rw [if_pos h2, if_pos h2]
      have hz : intS b ⟨p, 0⟩ = if (intR b p).2.2 ≠ 0 then (0, ⟨p, (intR b p).2.2⟩) else ((intR b p).1, ⟨(intR b p).2.1, 0⟩) := by
        unfold intS
        rw [if_neg (by simp)]
      rw [hz]
      by_cases h3 : (intR b p).2.2 ≠ 0
      · rw [if_pos h3, if_pos h3]
        refine ⟨fun er e => ?_, fun m q e => by cases e⟩
        injection e with e
        subst e
        exact ⟨rfl, h3⟩
      · rw [if_neg h3, if_neg h3]
        refine ⟨fun er e => (by cases e), fun m q' e => ?_⟩
        injection e with e
        injection e with e1 e2
        subst e1 e2
        rw [ht]
    · rw [if_neg h2, if_neg h2]
      by_cases h3 : a.form = 3
      · rw [if_pos h3, if_pos h3, if_pos rfl]
        by_cases h5 : (textR b p).2.2 ≠ 0
        · have h6 := textR_err h5
          have h7 : ¬ 40 < (textR b p).1.length := by rw [h6]; simp
          rw [if_neg h7, if_pos h5]
          refine ⟨fun er e => ?_, fun m q e => by cases e⟩
          injection e with e
          subst e
          rw [if_neg h7]
          unfold txtF
          rw [failS_live]
          exact ⟨rfl, h5⟩
        · have h50 : (textR b p).2.2 = 0 := by simpa using h5
          have h8 : txtF b ⟨p, 0⟩ = ⟨(textR b p).2.1, 0⟩ := by
            unfold txtF
            simp only
            rw [h50, failS_live]
          rw [if_neg h5]
          simp only
          rw [h8]
          by_cases h4 : 40 < (textR b p).1.length
          · rw [if_pos h4, if_pos h4]
            refine ⟨fun er e => ?_, fun m q e => by cases e⟩
            injection e with e
            subst e
            rw [failS_live]
            exact ⟨rfl, by decide⟩
          · rw [if_neg h4, if_neg h4]
            refine ⟨fun er e => (by cases e), fun m q' e => ?_⟩
            injection e with e
            injection e with e1 e2
            subst e1 e2
            rw [hv]
      · rw [if_neg h3, if_neg h3]
        refine ⟨fun er e => (by cases e), fun m q' e => ?_⟩
        injection e with e
        injection e with e1 e2
        subst e1 e2
        rw [ht]
theorem vals_law {b : List UInt8} : ∀ (r l : List Att) (p : Int), (∀ a ∈ r, GoodA a) → (∀ er, valsD b r l p = .error er → (attsS b (pairs r) l ⟨p, 0⟩).2.e = er ∧ er ≠ 0) ∧ (∀ m q, valsD b r l p = .ok (m, q) → attsS b (pairs r) l ⟨p, 0⟩ = (m, ⟨q, 0⟩))
  | [], l, p, _ => ⟨fun er e => (by cases e), fun m q e => by
    unfold valsD at e
    injection e with e
    injection e with e1 e2
    subst e1 e2
    rfl⟩
  | a :: r, l, p, hr => by
    have ha := val_law (b := b) (hr a (by simp)) p
    have hc : attsS b (pairs (a :: r)) l ⟨p, 0⟩ = attsS b (pairs r) (l ++ [(attS b a.name a.form ⟨p, 0⟩).1]) (attS b a.name a.form ⟨p, 0⟩).2 := by
      show attsS b ((a.name, a.form) :: pairs r) l ⟨p, 0⟩ = _
      rw [attsS, if_neg (by simp)]
    rw [hc]
    unfold valsD
    rcases h1 : valD a b p with e1 | ⟨x, q⟩
    · obtain ⟨h2, h3⟩ := ha.1 e1 h1
      refine ⟨fun er e => ?_, fun m q e => by cases e⟩
      injection e with e
      subst e
      have hd : (attS b a.name a.form ⟨p, 0⟩).2.e ≠ 0 := by rw [h2]; exact h3
      rw [attsS_dead hd]
      exact ⟨h2, h3⟩
    · rw [ha.2 x q h1]
      exact vals_law r (l ++ [x]) q (fun y hy => hr y (by simp [hy]))
theorem tree_law {S : List Shp} (hS : ∀ s ∈ S, ∀ a ∈ s.attrs, GoodA a) {b : List UInt8} : ∀ (f : Nat) (l : List Ent) (d : Int) (ch fr : Bool) (p : Int), 0 ≤ p → p ≤ b.length → (b.length : Int) + 1 ≤ f + p → 0 ≤ d → (fr = true ↔ l = [] ∨ ch = true) → (fr = false → 1 ≤ d) → l.length ≤ 4000 →
    (∀ er, treeD S b f l d ch p = .error er → (treeS (S.map pshOf) b f l d fr ⟨p, 0⟩).2.e = er ∧ er ≠ 0) ∧ (∀ m q, treeD S b f l d ch p = .ok (m, q) → treeS (S.map pshOf) b f l d fr ⟨p, 0⟩ = (m, ⟨q, 0⟩))
  | 0, l, d, ch, fr, p, h0, h1, h2, _, _, _, _ => by omega
  | f + 1, l, d, ch, fr, p, h0, h1, h2, hd, hfr, hfd, hl => by
    unfold treeS treeD
    by_cases hu : (uintR b p).2.2 ≠ 0
    · have hus : uintS b ⟨p, 0⟩ = (0, ⟨p, (uintR b p).2.2⟩) := by rw [uintS_live, if_pos hu]
      rw [hus, if_pos hu, if_neg (show ¬ ((⟨p, 0⟩ : RS18).e ≠ 0) by simp), if_pos (show ((0 : Int), (⟨p, (uintR b p).2.2⟩ : RS18)).2.e ≠ 0 from hu)]
      refine ⟨fun er e => ?_, fun m q e => by cases e⟩
      injection e with e
      subst e
      exact ⟨rfl, hu⟩
    · have hus : uintS b ⟨p, 0⟩ = ((uintR b p).1, ⟨(uintR b p).2.1, 0⟩) := by rw [uintS_live, if_neg hu]
      rw [hus, if_neg hu, if_neg (show ¬ ((⟨p, 0⟩ : RS18).e ≠ 0) by simp), if_neg (show ¬ (((uintR b p).1, (⟨(uintR b p).2.1, 0⟩ : RS18)).2.e ≠ 0) by simp)]
      have hn := uintR_next (l := b) (p := p) (by simpa using hu)
      have hnn := uintR_nonneg (b := b) (p := p)
      simp only
      generalize (uintR b p).1 = v at *
      generalize (uintR b p).2.1 = q at *
      by_cases hv : v = 0
      · rw [if_pos hv, if_pos hv]
        by_cases hf : fr = true
        · rw [if_pos (hfr.1 hf), if_pos hf]
          refine ⟨fun er e => ?_, fun m q' e => by cases e⟩
          injection e with e
          subst e
          rw [failS_live]
          exact ⟨rfl, by decide⟩
        · rw [if_neg (fun h => hf (hfr.2 h)), if_neg hf]
          by_cases hd1 : d - 1 = 0
          · rw [if_pos hd1, if_pos hd1]
            refine ⟨fun er e => (by cases e), fun m q' e => ?_⟩
            injection e with e
            injection e with e1 e2
            subst e1 e2
            rfl
          · rw [if_neg hd1, if_neg hd1]
            have h1d := hfd (by simpa using hf)
            exact tree_law hS f l (d - 1) ch fr q (by omega) (by omega) (by omega) (by omega) hfr (fun _ => by omega) hl
      · rw [if_neg hv, if_neg hv, List.getElem?_map]
        rcases hs : S[(v - 1).toNat]? with _ | s
        · simp only [Option.map_none]
          refine ⟨fun er e => ?_, fun m q' e => by cases e⟩
          injection e with e
          subst e
          rw [failS_live]
          exact ⟨rfl, by decide⟩
        · simp only [Option.map_some]
          have hsm : s ∈ S := List.mem_of_getElem? hs
          have e1 : (pshOf s).ps = pairs s.attrs := rfl
          have e2 : (pshOf s).tag = s.tag := rfl
          have e3 : (pshOf s).kids = 1 ↔ s.kids = true := by
            unfold pshOf
            cases s.kids <;> simp
          by_cases hlim : l.length = 4000 ∨ 32 < d
          · have hlim2 : 4000 ≤ l.length ∨ 32 < d := by omega
            rw [if_pos hlim, if_pos hlim2]
            refine ⟨fun er e => ?_, fun m q' e => by cases e⟩
            injection e with e
            subst e
            rw [failS_live]
            exact ⟨rfl, by decide⟩
          · have hlim2 : ¬ (4000 ≤ l.length ∨ 32 < d) := by omega
            rw [if_neg hlim, if_neg hlim2, e1, e2]
            have hvl := vals_law (b := b) s.attrs [] q (hS s hsm)
            rcases h5 : valsD b s.attrs [] q with er1 | ⟨vs, q2⟩
            · obtain ⟨h6, h7⟩ := hvl.1 er1 h5
              have hdd : (attsS b (pairs s.attrs) [] ⟨q, 0⟩).2.e ≠ 0 := by rw [h6]; exact h7
              refine ⟨fun er e => ?_, fun m q' e => by cases e⟩
              injection e with e
              subst e
              split
              · rw [treeS_dead hdd]; exact ⟨h6, h7⟩
              · split
                · exact ⟨h6, h7⟩
                · rw [treeS_dead hdd]; exact ⟨h6, h7⟩
            · rw [hvl.2 vs q2 h5]
              obtain ⟨hqa, hqb⟩ : q ≤ q2 ∧ q2 ≤ b.length := valsD_pos h5 hn.2.2
              obtain ⟨hn1, hn2, hn3⟩ := hn
              have hf2 : (b.length : Int) + 1 ≤ f + q2 := by omega
              have hq20 : 0 ≤ q2 := by omega
              have hl2 : (l ++ [(⟨d, s.tag, vs⟩ : Ent)]).length ≤ 4000 := by rw [List.length_append]; simp only [List.length_cons, List.length_nil]; omega
              simp only
              cases hk : s.kids with
              | true =>
                rw [if_pos (e3.2 hk)]
                simp only [if_true]
                rw [if_neg (by omega)]
                exact tree_law hS f (l ++ [⟨d, s.tag, vs⟩]) (d + 1) true true q2 hq20 hqb hf2 (by omega) (by simp) (fun h => by cases h) hl2
              | false =>
                have hkn : ¬ (pshOf s).kids = 1 := fun h => by rw [e3.1 h] at hk; cases hk
                rw [if_neg hkn]
                simp only [Bool.false_eq_true, if_false]
                by_cases hd0 : d = 0
                · rw [if_pos hd0, if_pos hd0]
                  refine ⟨fun er e => (by cases e), fun m q' e => ?_⟩
                  injection e with e
                  injection e with e1 e2
                  subst e1 e2
                  rfl
                · rw [if_neg hd0, if_neg hd0]
                  exact tree_law hS f (l ++ [⟨d, s.tag, vs⟩]) d false false q2 hq20 hqb hf2 hd (by simp) (fun _ => by omega) hl2
theorem abbD_good {b : List UInt8} {p q : Int} {s : Shp} (h : abbD b p = .ok (s, q)) : (∀ a ∈ s.attrs, GoodA a) ∧ 0 ≤ p ∧ p < q ∧ q ≤ b.length := by
  obtain ⟨_, h0, h1, h2⟩ := abbD_ok h
  refine ⟨?_, h0, h1, h2⟩
  unfold abbD at h
  rcases e1 : betR 1 63 4 b p with er | ⟨t, p1⟩
  · rw [e1] at h; cases h
  rw [e1] at h
  simp only at h
  rcases e2 : betR 0 1 4 b p1 with er | ⟨k, p2⟩
  · rw [e2] at h; cases h
  rw [e2] at h
  simp only at h
  rcases e3 : betR 0 12 5 b p2 with er | ⟨n, p3⟩
  · rw [e3] at h; cases h
  rw [e3] at h
  simp only at h
  rcases e4 : attsD b n.toNat [] p3 with er | ⟨l, p4⟩
  · rw [e4] at h; cases h
  rw [e4] at h
  simp only at h
  injection h with h
  injection h with h3 h4
  subst h3
  obtain ⟨_, hb1, hb2, hb3⟩ := betR_ok e3
  obtain ⟨_, ⟨r, hr, hg⟩, _⟩ := attsD_ok e4 (by omega) (by omega)
  intro a ha
  simp only [List.nil_append] at hr
  subst hr
  have := hg a ha
  exact ⟨⟨this.2.2.1, this.2.2.2.1⟩, this.2.2.2.2.1, this.2.2.2.2.2⟩
theorem shps_good {b : List UInt8} : ∀ (f : Nat) (S : List Shp) (p : Int) (Z : List Shp), (∀ s ∈ S, ∀ a ∈ s.attrs, GoodA a) → shpsD b f S p = .ok Z → ∀ s ∈ Z, ∀ a ∈ s.attrs, GoodA a
  | f, S, p, Z, hS, h => by
    unfold shpsD at h
    by_cases hp : ¬ p < b.length
    · rw [if_pos hp] at h
      injection h with h
      subst h
      exact hS
    · rw [if_neg hp] at h
      cases f with
      | zero => cases h
      | succ f =>
        simp only at h
        rcases h1 : abbD b p with er | ⟨s, q⟩
        · rw [h1] at h; cases h
        · rw [h1] at h
          refine shps_good f (S ++ [s]) q Z (fun x hx => ?_) h
          rcases List.mem_append.1 hx with hx | hx
          · exact hS x hx
          · simp only [List.mem_singleton] at hx
            subst hx
            exact (abbD_good h1).1
theorem decS21_eq (a b : List UInt8) : decS21 a b = decD a b := by
  unfold decS21 decD
  by_cases h0 : 60000 < a.length ∨ 60000 < b.length
  · rw [if_pos h0, if_pos h0]
  · rw [if_neg h0, if_neg h0]
    have hz := shps_law (b := a) 200 [] 0 rfl
    rw [show ([] : List Shp).map pshOf = [] from rfl] at hz
    rcases h1 : shpsD a 200 [] 0 with er | S
    · obtain ⟨h2, h3⟩ := hz.1 er h1
      rw [if_pos (by rw [h2]; exact h3), h2]
    · obtain ⟨h2, h3⟩ := hz.2 S h1
      rw [if_neg (by rw [h3]; simp), h2]
      have hg := shps_good 200 [] 0 S (by simp) h1
      have ht := tree_law hg (b := b) (b.length + 1) [] 0 false true 0 (by omega) (by omega) (by omega) (by omega) (by simp) (fun h => by cases h) (by simp)
      simp only
      rcases h4 : treeD S b (b.length + 1) [] 0 false 0 with er | ⟨l, q⟩
      · obtain ⟨h5, h6⟩ := ht.1 er h4
        have hd : endF b (treeS (S.map pshOf) b (b.length + 1) [] 0 true ⟨0, 0⟩).2 = (treeS (S.map pshOf) b (b.length + 1) [] 0 true ⟨0, 0⟩).2 := by
          unfold endF
          rw [if_neg (fun h => h6 (by rw [← h5]; exact h.1))]
        rw [hd, if_pos (by rw [h5]; exact h6), h5]
      · rw [ht.2 l q h4]
        simp only
        by_cases h7 : q < b.length
        · have hd : endF b ⟨q, 0⟩ = ⟨q, 4⟩ := by
            unfold endF
            rw [if_pos ⟨rfl, h7⟩, failS_live]
          rw [hd, if_pos h7, if_pos (by simp)]
        · have hd : endF b ⟨q, 0⟩ = ⟨q, 0⟩ := by
            unfold endF
            rw [if_neg (fun h => h7 h.2)]
          rw [hd, if_neg h7, if_neg (by simp)]
end Go.Proofs.Ytopanbcodfkedaa
