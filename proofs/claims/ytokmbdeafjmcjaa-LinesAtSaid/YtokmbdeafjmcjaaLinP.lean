/- The tables that the statements make from numbers: plain laws, and tables. -/
import Derived.Test.YtokmbdeafjmcjaaLinO
namespace Go.Proofs.Ytokmbdeafjmcjaa
open Go.RowKit
set_option linter.unusedVariables false

def hiOf (e : Int) : List LTab → Int
  | [] => e
  | t :: l => hiOf t.hi l
theorem hiOf_snoc (t : LTab) : ∀ (l : List LTab) (e : Int), hiOf e (l ++ [t]) = t.hi
  | [], _ => rfl
  | s :: l, e => hiOf_snoc t l s.hi
theorem okTabs_snoc (t : LTab) : ∀ (l : List LTab) (e : Int), okTabs e (l ++ [t]) ↔ okTabs e l ∧ okTab (hiOf e l) t ∧ okRows t.lo t.hi t.rows
  | [], e => by simp [okTabs, hiOf]
  | s :: l, e => by
    simp only [List.cons_append, okTabs, hiOf]
    rw [okTabs_snoc t l s.hi]
    exact ⟨fun ⟨h1, h2, h3, h4⟩ => ⟨⟨h1, h2, h3⟩, h4⟩, fun ⟨⟨h1, h2, h3⟩, h4⟩ => ⟨h1, h2, h3, h4⟩⟩
def endA (nx : Int) : List LRow → Int
  | [] => nx
  | r :: l => endA (r.addr + 1) l
theorem endA_snoc (r : LRow) : ∀ (l : List LRow) (nx : Int), endA nx (l ++ [r]) = r.addr + 1
  | [], _ => rfl
  | s :: l, nx => endA_snoc r l (s.addr + 1)
theorem okRows_snoc {hi : Int} (r : LRow) : ∀ (l : List LRow) (nx : Int), okRows nx hi (l ++ [r]) ↔ okRows nx hi l ∧ okRow (endA nx l) hi r
  | [], nx => by simp [okRows, endA]
  | s :: l, nx => by
    simp only [List.cons_append, okRows, endA]
    rw [okRows_snoc r l (s.addr + 1)]
    exact ⟨fun ⟨h1, h2, h3⟩ => ⟨⟨h1, h2⟩, h3⟩, fun ⟨⟨h1, h2⟩, h3⟩ => ⟨h1, h2, h3⟩⟩
theorem okRows_mono {hi hi' : Int} (h : hi ≤ hi') : ∀ {l : List LRow} {nx : Int}, okRows nx hi l → okRows nx hi' l
  | [], _, _ => trivial
  | r :: l, nx, ⟨h1, h2⟩ => ⟨⟨⟨h1.1.1, by have := h1.1.2.1; omega, h1.1.2.2⟩, h1.2⟩, okRows_mono h h2⟩
/-- the tables that are made so far; at numbers have been used -/
structure TG (l : List LTab) (lo : Int) (at_ : Nat) : Prop where
  ok : okTabs 0 l
  hi : hiOf 0 l = lo
  pos : 0 ≤ lo
  top : lo ≤ 100 * l.length + 50 * rowsN l
  rows : rowsN l ≤ at_
/-- the table that is being made -/
structure IG (lo a : Int) (rows : List LRow) : Prop where
  ok : okRows lo (a + 1) rows
  low : lo ≤ a
  top : a ≤ lo + 41 * rows.length
  nil : rows = [] → a = lo
  end_ : rows ≠ [] → endA lo rows = a + 1
theorem IG.start (lo : Int) : IG lo lo [] := ⟨trivial, Int.le_refl _, by simp, fun _ => rfl, fun h => absurd rfl h⟩
theorem IG.push {lo a : Int} {rows : List LRow} {r : LRow} (h : IG lo a rows) (h1 : a ≤ r.addr ∧ r.addr ≤ a + 41) (h2 : rows ≠ [] → a + 1 ≤ r.addr) (h3 : 0 ≤ r.ctx ∧ r.ctx ≤ 255 ∧ -1 ≤ r.stmt ∧ r.stmt ≤ 9999) (h4 : r.stmt = -1 → r.ctx = 0 ∧ r.mark = false) : IG lo r.addr (rows ++ [r]) := by
  have hl := h.low
  have ht := h.top
  refine ⟨(okRows_snoc r rows lo).2 ⟨okRows_mono (by omega) h.ok, ⟨⟨?_, by omega, h3.1, h3.2.1, h3.2.2.1, h3.2.2.2⟩, h4⟩⟩, by omega, by rw [List.length_append]; simp only [List.length_cons, List.length_nil]; omega, fun h => by simp at h, fun _ => endA_snoc r rows lo⟩
  by_cases h0 : rows = []
  · subst h0
    show lo ≤ r.addr
    omega
  · rw [h.end_ h0]
    exact h2 h0
theorem TG.push {l : List LTab} {lo a : Int} {at_ at2 : Nat} {t : LTab} (h : TG l lo at_) (hi : IG t.lo a t.rows) (hlo : lo ≤ t.lo ∧ t.lo ≤ lo + 50) (ht : t.hi = a + 1) (hat : at_ + t.rows.length ≤ at2) (hl : l.length ≤ 4) (ha2 : at2 ≤ 200) : TG (l ++ [t]) t.hi at2 := by
  have h1 := h.pos
  have h2 := h.top
  have h3 := h.rows
  have h4 := hi.low
  have h5 := hi.top
  have hr : rowsN (l ++ [t]) = rowsN l + t.rows.length := by simp [rowsN]
  refine ⟨(okTabs_snoc t l 0).2 ⟨h.ok, ?_, by rw [ht]; exact hi.ok⟩, hiOf_snoc t l 0, by omega, ?_, by omega⟩
  · rw [h.hi]
    unfold okTab
    omega
  · rw [hr, List.length_append]
    simp only [List.length_cons, List.length_nil]
    omega
theorem TG.right {l : List LTab} {lo : Int} {at_ : Nat} (h : TG l lo at_) (hl : l.length ≤ 4) (ha : at_ ≤ 200) : RightL l := ⟨by omega, h.ok, by have := h.rows; omega⟩
end Go.Proofs.Ytokmbdeafjmcjaa
