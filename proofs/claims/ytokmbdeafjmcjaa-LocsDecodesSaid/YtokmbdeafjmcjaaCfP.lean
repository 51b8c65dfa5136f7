/- Frame tables: plain laws (what the statements make of numbers; Find and Offset). -/
import Derived.Test.YtokmbdeafjmcjaaCfA
namespace Go.Proofs.Ytokmbdeafjmcjaa
open Go.RowKit
set_option linter.unusedVariables false

/-! Find and Offset -/
def inF (addr : Int) (t : FTab) : Bool := decide (t.lo ≤ addr) && decide (addr < t.hi)
def findF (l : List FTab) (addr : Int) : Int × Bool := match l.findIdx? (inF addr) with
  | some i => ((i : Int), true)
  | none => (0, false)
theorem findF_none {l : List FTab} {addr : Int} (h : ∀ t ∈ l, inF addr t = false) : findF l addr = (0, false) := by
  unfold findF
  rw [List.findIdx?_eq_none_iff.2 h]
theorem findF_some {l : List FTab} {addr : Int} {j : Nat} (hj : j < l.length) (h : inF addr l[j] = true) (h2 : ∀ t ∈ l.take j, inF addr t = false) : findF l addr = ((j : Int), true) := by
  unfold findF
  have : l.findIdx? (inF addr) = some j := by
    rw [List.findIdx?_eq_some_iff_getElem]
    refine ⟨hj, h, fun i hi => ?_⟩
    have := h2 l[i] (by rw [List.mem_take_iff_getElem]; exact ⟨i, by omega, rfl⟩)
    simpa using this
  rw [this]
def lastS (addr : Int) (l : List Stp) : Int × Bool := match l.reverse.find? (fun r => decide (r.addr ≤ addr)) with
  | some r => (r.off, true)
  | none => (0, false)
/-- the offset at an address, and whether there is one -/
def offF (t : FTab) (addr : Int) : Int × Bool := if addr < t.lo ∨ t.hi ≤ addr then (0, false) else lastS addr t.steps
theorem lastS_nil (addr : Int) : lastS addr [] = (0, false) := rfl
theorem lastS_snoc (addr : Int) (l : List Stp) (r : Stp) : lastS addr (l ++ [r]) = if r.addr ≤ addr then (r.off, true) else lastS addr l := by
  unfold lastS
  rw [List.reverse_append]
  simp only [List.reverse_cons, List.reverse_nil, List.nil_append, List.cons_append, List.find?_cons]
  by_cases h : r.addr ≤ addr
  · rw [if_pos h]
    simp [h]
  · rw [if_neg h]
    simp [h]
theorem offF_none {t : FTab} {addr : Int} (h1 : ¬ addr < t.lo) (h2 : ¬ t.hi ≤ addr) {ys : List (Nat × Stp)} (hy : ys.map Prod.snd = t.steps.reverse) (h : ∀ x ∈ ys, ¬ x.2.addr ≤ addr) : ((0 : Int), false) = offF t addr := by
  unfold offF lastS
  rw [if_neg (by omega)]
  have : t.steps.reverse.find? (fun r => decide (r.addr ≤ addr)) = none := by
    rw [List.find?_eq_none, ← hy]
    intro r hr
    obtain ⟨x, hx, rfl⟩ := List.mem_map.1 hr
    simpa using h x hx
  rw [this]
theorem offF_some {t : FTab} {addr : Int} (h1 : ¬ addr < t.lo) (h2 : ¬ t.hi ≤ addr) {pre : List (Nat × Stp)} {x : Nat × Stp} (hy : (pre ++ [x]).map Prod.snd <+: t.steps.reverse) (hx : x.2.addr ≤ addr) (h : ∀ z ∈ pre, ¬ z.2.addr ≤ addr) : (x.2.off, true) = offF t addr := by
  unfold offF lastS
  rw [if_neg (by omega)]
  have : t.steps.reverse.find? (fun r => decide (r.addr ≤ addr)) = some x.2 := by
    obtain ⟨bs, hbs⟩ := hy
    rw [List.find?_eq_some_iff_append]
    refine ⟨by simpa using hx, pre.map Prod.snd, bs, by rw [← hbs]; simp, fun a ha => ?_⟩
    obtain ⟨z, hz, rfl⟩ := List.mem_map.1 ha
    have := h z hz
    simp; omega
  rw [this]
/-! what is made of numbers -/
def hiF (e : Int) : List FTab → Int
  | [] => e
  | t :: l => hiF t.hi l
theorem hiF_snoc (t : FTab) : ∀ (l : List FTab) (e : Int), hiF e (l ++ [t]) = t.hi
  | [], _ => rfl
  | s :: l, e => hiF_snoc t l s.hi
theorem okFs_snoc (t : FTab) : ∀ (l : List FTab) (e : Int), okFs e (l ++ [t]) ↔ okFs e l ∧ okF (hiF e l) t ∧ okStps t.lo t.hi t.steps ∧ okObjs t.objs
  | [], e => by simp [okFs, hiF]
  | s :: l, e => by
    simp only [List.cons_append, okFs, hiF]
    rw [okFs_snoc t l s.hi]
    exact ⟨fun ⟨h1, h2, h3, h4, h5⟩ => ⟨⟨h1, h2, h3, h4⟩, h5⟩, fun ⟨⟨h1, h2, h3, h4⟩, h5⟩ => ⟨h1, h2, h3, h4, h5⟩⟩
def nextS (nx : Int) : List Stp → Int
  | [] => nx
  | r :: l => nextS (r.addr + 1) l
theorem nextS_snoc (r : Stp) : ∀ (l : List Stp) (nx : Int), nextS nx (l ++ [r]) = r.addr + 1
  | [], _ => rfl
  | s :: l, nx => nextS_snoc r l (s.addr + 1)
theorem okStps_snoc {hi : Int} (r : Stp) : ∀ (l : List Stp) (nx : Int), okStps nx hi (l ++ [r]) ↔ okStps nx hi l ∧ okStp (nextS nx l) hi r
  | [], nx => by simp [okStps, nextS]
  | s :: l, nx => by
    simp only [List.cons_append, okStps, nextS]
    rw [okStps_snoc r l (s.addr + 1)]
    exact ⟨fun ⟨h1, h2, h3⟩ => ⟨⟨h1, h2⟩, h3⟩, fun ⟨⟨h1, h2⟩, h3⟩ => ⟨h1, h2, h3⟩⟩
theorem okStps_mono {hi hi' : Int} (h : hi ≤ hi') : ∀ {l : List Stp} {nx : Int}, okStps nx hi l → okStps nx hi' l
  | [], _, _ => trivial
  | r :: l, nx, ⟨h1, h2⟩ => ⟨⟨h1.1, by have := h1.2.1; omega, h1.2.2⟩, okStps_mono h h2⟩
/-- the steps that are made so far; a: where the next one may stand -/
structure SG (lo a : Int) (l : List Stp) : Prop where
  ok : okStps lo a l
  low : nextS lo l ≤ a
  top : lo ≤ a ∧ a ≤ lo + 200 * l.length
  len : l.length ≤ 4
theorem SG.start (lo : Int) : SG lo lo [] := ⟨trivial, Int.le_refl _, by simp, by simp⟩
theorem SG.push {lo a a' : Int} {l : List Stp} {o : Int} (h : SG lo a l) (ho : 0 ≤ o ∧ o ≤ 4096) (ha : a + 1 ≤ a' ∧ a' ≤ a + 200) (hl : l.length < 4) : SG lo a' (l ++ [⟨a, o⟩]) := by
  have ht := h.top
  refine ⟨(okStps_snoc _ l lo).2 ⟨okStps_mono (by omega) h.ok, h.low, by simp only; omega, ho.1, ho.2⟩, by rw [nextS_snoc]; exact ha.1, ?_, by simp; omega⟩
  rw [List.length_append]
  simp only [List.length_cons, List.length_nil]
  omega
/-- the objects that are made so far -/
structure OG (k : Nat) (l : List Obj) : Prop where
  ok : ∀ o ∈ l, okObj o ∧ o.var < (k : Int)
  nd : (l.map objName).Nodup
  len : l.length = k
theorem OG.start : OG 0 [] := ⟨by simp, by simp, rfl⟩
theorem OG.push {k : Nat} {l : List Obj} {c s u : Int} (h : OG k l) (hk : k < 4) (hc : 0 ≤ c ∧ c < 200) (hs : 0 ≤ s ∧ s < 4000) (hu : 1 ≤ u ∧ u ≤ 8) : OG (k + 1) (l ++ [⟨c, (k : Int), s, u⟩]) := by
  refine ⟨fun o ho => ?_, ?_, by rw [List.length_append, h.len]; rfl⟩
  · rcases List.mem_append.1 ho with ho | ho
    · exact ⟨(h.ok o ho).1, by have := (h.ok o ho).2; omega⟩
    · simp only [List.mem_singleton] at ho
      subst ho
      exact ⟨by unfold okObj; simp only; omega, by simp only; omega⟩
  · rw [List.map_append, List.nodup_append]
    refine ⟨h.nd, by simp, fun a ha b hb => ?_⟩
    simp only [List.map_cons, List.map_nil, List.mem_singleton] at hb
    subst hb
    obtain ⟨o, ho, rfl⟩ := List.mem_map.1 ha
    intro e
    have := (h.ok o ho).2
    have e2 : o.var = (k : Int) := by unfold objName at e; injection e
    omega
/-- the tables that are made so far -/
structure FG (lo : Int) (l : List FTab) : Prop where
  ok : okFs 0 l
  hi : hiF 0 l = lo
  pos : 0 ≤ lo
  top : lo ≤ 900 * l.length
  few : ∀ t ∈ l, t.steps.length ≤ 4 ∧ t.objs.length ≤ 4 ∧ 0 ≤ t.lo ∧ t.hi ≤ lo ∧ t.lo ≤ t.hi
theorem FG.start : FG 0 [] := ⟨trivial, rfl, by omega, by simp, by simp⟩
theorem FG.push {lo m a : Int} {k : Nat} {l : List FTab} {ss : List Stp} {os : List Obj} (h : FG lo l) (hl : l.length ≤ 5) (hm : 0 ≤ m ∧ m < 7) (hs : SG (lo + m) a ss) (ho : OG k os) (hk : k ≤ 4) : FG (a + 1) (l ++ [⟨lo + m, a + 1, ss, os⟩]) := by
  have h1 := h.pos
  have h2 := h.top
  have h3 := hs.top
  have h4 := hs.len
  refine ⟨(okFs_snoc _ l 0).2 ⟨h.ok, ?_, okStps_mono (by show a ≤ a + 1; omega) hs.ok, fun o hh => (ho.ok o hh).1, ho.nd⟩, hiF_snoc _ l 0, by omega, ?_, fun t ht => ?_⟩
  · rw [h.hi]
    unfold okF
    simp only
    omega
  · rw [List.length_append]
    simp only [List.length_cons, List.length_nil]
    omega
  · rcases List.mem_append.1 ht with ht | ht
    · have := h.few t ht
      omega
    · simp only [List.mem_singleton] at ht
      subst ht
      have := ho.len
      simp only
      omega
theorem itemsN_le : ∀ {l : List FTab}, (∀ t ∈ l, t.steps.length ≤ 4 ∧ t.objs.length ≤ 4) → itemsN l ≤ 8 * l.length
  | [], _ => by simp [itemsN]
  | t :: l, h => by
    have h1 := h t (by simp)
    have h2 := itemsN_le (l := l) (fun x hx => h x (by simp [hx]))
    unfold itemsN at *
    simp only [List.map_cons, List.sum_cons, List.length_cons]
    omega
theorem FG.right {lo : Int} {l : List FTab} (h : FG lo l) (hl : l.length ≤ 5) : RightF l := ⟨by omega, h.ok, by have := itemsN_le (l := l) (fun t ht => ⟨(h.few t ht).1, (h.few t ht).2.1⟩); omega⟩
end Go.Proofs.Ytokmbdeafjmcjaa
