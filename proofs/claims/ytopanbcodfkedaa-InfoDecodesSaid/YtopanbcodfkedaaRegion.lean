/- A region that draws its order, walked once: values first, calls one after another, a new variable wherever it comes up. No statement about the program. -/
import Derived.Test.YtopanbcodfkedaaBase
import Derived.OrdersHeld
import Derived.StillTailTactics
import Derived.Deep.RegionHeld3
namespace Go.Proofs.Ytopanbcodfkedaa
open Go.RowKit
set_option linter.unusedVariables false

section
variable {P : Program} {md : Region.Mode} {ops : Array Oper} {Q : Exit → Act → World → Prop} {LF : Array Bool} {T : Nat → Array Bool → Act → World → Prop}

/-- whatever of LF comes up keeps what was there, until all of LF has come up, and then T, however the world has grown -/
def wpX (P : Program) (md : Region.Mode) (ops : Array Oper) (Q : Exit → Act → World → Prop) (LF : Array Bool) (T : Nat → Array Bool → Act → World → Prop) : Nat → Array Bool → Act → World → Prop
  | 0, listed, a, w => listed = LF ∧ ∀ W, Ext w W → T 0 LF a W
  | n + 1, listed, a, w => Region.ready md ops listed ≠ [] ∧
      (∀ W, Ext w W → ∀ i ∈ Region.ready md ops listed, LF.getD i false = true → wpOp P ops Q i (fun a' w' => Ext W w' ∧ wpX P md ops Q LF T n (listed.setIfInBounds i true) a' w') a W) ∧
      (∀ i ∈ Region.ready md ops listed, LF.getD i false = false → ∀ W, Ext w W → T (n + 1) listed a W)

/-- whoever is not of LF waits for i -/
def tailB (md : Region.Mode) (ops : Array Oper) (LF : Array Bool) (i : Nat) : Bool :=
  (List.range ops.size).all fun j => LF.getD j false || Region.waitsFor md ops j i

theorem tailB_spec {i : Nat} (h : tailB md ops LF i = true) {j : Nat} (hj : LF.getD j false = false) (hs : j < ops.size) : Region.waitsFor md ops j i = true := by
  have h1 := List.all_eq_true.1 h j (List.mem_range.2 hs)
  simpa [hj] using h1

theorem ready_lt {j : Nat} {listed : Array Bool} (hj : j ∈ Region.ready md ops listed) : j < ops.size := by
  obtain ⟨_, o, ho, _⟩ := mem_ready.1 hj
  exact (Array.getElem?_eq_some_iff.1 ho).1

theorem waits_not {j i : Nat} {listed : Array Bool} (hj : j ∈ Region.ready md ops listed) (hi : listed.getD i true = false) (h : Region.waitsFor md ops j i = true) : False := by
  obtain ⟨oj, hoj, e, he, hb, hon⟩ := Region.waitsFor_spec h
  obtain ⟨_, o, ho, hall⟩ := mem_ready.1 hj
  have : o = oj := Option.some.inj (ho.symm.trans hoj)
  subst this
  have h2 := hall e he hb
  rw [hon, getD_both hi] at h2
  cases h2
theorem ready_not {j : Nat} {listed : Array Bool} (hj : j ∈ Region.ready md ops listed) (h : listed.getD j false = true) : False := by
  rw [getD_both (mem_ready.1 hj).1] at h
  cases h

theorem wpX.grow {n : Nat} {listed : Array Bool} {a : Act} {w W : World} (h : wpX P md ops Q LF T n listed a w) (he : Ext w W) : wpX P md ops Q LF T n listed a W := by
  cases n with
  | zero => exact ⟨h.1, fun W' hW' => h.2 W' (he.trans hW')⟩
  | succ n => exact ⟨h.1, fun W' hW' => h.2.1 W' (he.trans hW'), fun i hi hl W' hW' => h.2.2 i hi hl W' (he.trans hW')⟩

theorem wpX.any {m : Nat} (hT : ∀ k listed a W, T k listed a W → wpAny P md ops Q (k + m) listed a W) : ∀ (n : Nat) (listed : Array Bool) (a : Act) (w : World), wpX P md ops Q LF T n listed a w → wpAny P md ops Q (n + m) listed a w
  | 0, listed, a, w, h => by
    obtain ⟨rfl, h2⟩ := h
    exact hT 0 _ a w (h2 w (Ext.refl w))
  | n + 1, listed, a, w, h => by
    by_cases hx : ∃ i, i ∈ Region.ready md ops listed ∧ LF.getD i false = false
    · obtain ⟨i, hi, hl⟩ := hx
      exact hT (n + 1) listed a w (h.2.2 i hi hl w (Ext.refl w))
    · rw [show n + 1 + m = (n + m) + 1 by omega]
      refine ⟨fun h0 => absurd h0 h.1, fun i hi => wpOp_mono (fun a' w' h' => wpX.any hT n _ a' w' h'.2) (h.2.1 w (Ext.refl w) i hi ?_)⟩
      cases hl : LF.getD i false with
      | true => rfl
      | false => exact absurd ⟨i, hi, hl⟩ hx

/-- T bears that i is taken first -/
def LateOK (P : Program) (md : Region.Mode) (ops : Array Oper) (T : Nat → Array Bool → Act → World → Prop) (i : Nat) (oi : Oper) (v : Value) : Prop :=
  ∀ k listed a W, (∀ j oj, ops[j]? = some oj → j ≠ i → listed.getD j true = false → (∀ e ∈ oj.after, Region.binds md e = true → e.on ≠ i) → oi.apart ops oj = true) →
    i ∈ Region.ready md ops listed → Yields P ops oi v a → T k (listed.setIfInBounds i true) (a.put oi.dst v) W → T (k + 1) listed a W

/-- an operation that yields its value however the world grows is taken first -/
theorem wpX_val' {i : Nat} {oi : Oper} {v : Value} (hi : ops[i]? = some oi) (hsel : ∀ (j : Nat) (o : Oper) cs b, ops[j]? = some o → o.op ≠ .select cs b)
    (hQ : ∀ c a w, Q (.panic c) (a.put oi.dst v) w → Q (.panic c) a w) (hLF : LF.getD i false = true) :
    ∀ (n : Nat) (listed : Array Bool) (a : Act) (w : World),
      (∀ j oj, ops[j]? = some oj → j ≠ i → listed.getD j true = false → (∀ e ∈ oj.after, Region.binds md e = true → e.on ≠ i) → oi.apart ops oj = true) →
      i ∈ Region.ready md ops listed → YieldsIf P ops (Ext w) oi v a → (tailB md ops LF i = true ∨ (LateOK P md ops T i oi v ∧ Yields P ops oi v a)) →
      wpX P md ops Q LF T n (listed.setIfInBounds i true) (a.put oi.dst v) w → wpX P md ops Q LF T (n + 1) listed a w := by
  have his : i < ops.size := (Array.getElem?_eq_some_iff.1 hi).1
  intro n
  induction n with
  | zero =>
    intro listed a w hfree hr hy ht H
    refine ⟨fun h => (by rw [h] at hr; cases hr), fun W hW j hj hjl => ?_, fun j hj hjl W hW => ?_⟩
    · by_cases hji : j = i
      · subst hji; exact hy.wpOp hi hW ⟨Ext.refl _, H.grow hW⟩
      · have h1 := ready_mono hj hji
        rw [H.1] at h1
        exact (ready_not h1 hjl).elim
    · rcases ht with ht | ⟨ht, hY⟩
      · exact (waits_not hj (mem_ready.1 hr).1 (tailB_spec ht hjl (ready_lt hj))).elim
      · exact ht 0 listed a W hfree hr hY (by rw [H.1]; exact H.2 W hW)
  | succ n ih =>
    intro listed a w hfree hr hy ht H
    refine ⟨fun h => (by rw [h] at hr; cases hr), fun W hW j hj hjl => ?_, fun j hj hjl W hW => ?_⟩
    · by_cases hji : j = i
      · subst hji; exact hy.wpOp hi hW ⟨Ext.refl _, H.grow hW⟩
      · have h1 := H.2.1 W hW j (ready_mono hj hji) hjl
        obtain ⟨hjun, oj, hoj, hall⟩ := mem_ready.1 hj
        have hnot : ∀ e ∈ oj.after, Region.binds md e = true → e.on ≠ i := fun e he hb heq => by
          have h1 := hall e he hb
          rw [heq, getD_both (mem_ready.1 hr).1] at h1
          cases h1
        have hap := hfree j oj hoj hji hjun hnot
        have hfree' : ∀ k ok, ops[k]? = some ok → k ≠ i → (listed.setIfInBounds j true).getD k true = false →
            (∀ e ∈ ok.after, Region.binds md e = true → e.on ≠ i) → oi.apart ops ok = true := fun k ok hk hki hun hno => by
          refine hfree k ok hk hki ?_ hno
          by_cases hjk : j = k
          · subst hjk; exact hjun
          · rw [getD_set_ne true hjk] at hun; exact hun
        rcases ht with ht | ⟨ht, hY⟩
        · have h2 := wpOp_putIf hoj hap (fun cs b => hsel i oi cs b hi) (fun cs b => hsel j oj cs b hoj) hQ hy h1
          refine wpOp_mono (fun a' w' h3 => ⟨h3.2.1, ih (listed.setIfInBounds j true) a' w' hfree' (ready_mono hr (Ne.symm hji)) ?_ (.inl ht) ?_⟩) h2
          · exact h3.1.imp (fun ⟨hw, hv⟩ => ⟨hw, fun x hx => hv x ((hW.trans h3.2.1).trans hx)⟩) id
          · rw [Array.setIfInBounds_comm _ _ hji]
            exact h3.2.2
        · have h2 := wpOp_put hoj hap (fun cs b => hsel i oi cs b hi) (fun cs b => hsel j oj cs b hoj) hQ hY h1
          refine wpOp_mono (fun a' w' h3 => ⟨h3.2.1, ih (listed.setIfInBounds j true) a' w' hfree' (ready_mono hr (Ne.symm hji)) h3.1.yieldsIf (.inr ⟨ht, h3.1⟩) ?_⟩) h2
          rw [Array.setIfInBounds_comm _ _ hji]
          exact h3.2.2
    · rcases ht with ht | ⟨ht, hY⟩
      · exact (waits_not hj (mem_ready.1 hr).1 (tailB_spec ht hjl (ready_lt hj))).elim
      · have hji : j ≠ i := fun e => by
          subst e
          rw [hLF] at hjl
          cases hjl
        exact ht (n + 1) listed a W hfree hr hY (H.2.2 j (ready_mono hj hji) hjl W hW)

theorem LateOK_any {m : Nat} {i : Nat} {oi : Oper} {v : Value} (hi : ops[i]? = some oi) (hs : Region.noSelect ops = true) (hQ : ∀ c a w, Q (.panic c) (a.put oi.dst v) w → Q (.panic c) a w) :
    LateOK P md ops (fun k listed a W => wpAny P md ops Q (k + m) listed a W) i oi v := fun k listed a W hf hr hy h => by
  have := wpAny_first hi (Region.noSelect_spec hs) hQ (k + m) listed a W hf hr hy h
  rwa [show k + m + 1 = k + 1 + m by omega] at this

/-- one operation, behind a value that it does not look at -/
theorem wpOp_late {j : Nat} {oi oj : Oper} {v : Value} (hj : ops[j]? = some oj) (hap : oi.apart ops oj = true) (hsj : ∀ cs b, oj.op ≠ .select cs b)
    (hQ : ∀ c a w, Q (.panic c) a w → Q (.panic c) (a.put oi.dst v) w) {K : Act → World → Prop} {a : Act} {w : World}
    (h : wpOp P ops Q j K a w) : wpOp P ops Q j (fun a' w' => ∃ a'', a' = a''.put oi.dst v ∧ K a'' w') (a.put oi.dst v) w := by
  obtain ⟨h1, h2, h3⟩ := Oper.apart_spec hap
  unfold wpOp at *
  simp only [hj] at *
  rw [wanted_put oj a oi.dst v h1]
  split
  · rename_i hw
    simp only [hw, if_true] at h
    rcases h with h | ⟨hasks, hlets⟩
    case inr => exact .inr ⟨by unfold Oper.asks at *; rw [execOp_put oj hsj a oi.dst v h1]; exact hasks, hlets⟩
    refine .inl ?_
    unfold Oper.wp at *
    rw [execOp_put oj hsj a oi.dst v h1]
    generalize (execOp a.eval oj).run P w = r at *
    cases r with
    | ok n w' =>
      cases n <;> simp only [Oper.upon] at h ⊢
      case value u => exact ⟨_, Act.put_comm a v u h2, h⟩
      case skip => exact ⟨_, Act.put_comm a v undef h2, h⟩
      case defer d => exact ⟨_, by rw [Act.put_defers]; exact Act.put_comm _ v undef h2, h⟩
      case enter f args =>
        refine Calls.mono h fun e w'' he => ?_
        cases e with
        | returned u => exact ⟨_, Act.put_comm a v u h2, he⟩
        | panicked c => exact hQ _ _ _ he
        | outgrown => exact he
      case row row args => exact Rows.mono h fun u w'' he => ⟨_, Act.put_comm a v u h2, he⟩
    | halt x w' =>
      cases x <;> simp only [Oper.upon] at h ⊢
      case panic u => exact hQ _ _ _ h
  · rename_i hw
    simp only [hw] at h
    exact ⟨_, Act.put_comm a v undef h2, h⟩


/-- all of LF but i itself is apart from i -/
def apartB (ops : Array Oper) (LF : Array Bool) (i : Nat) : Bool :=
  match ops[i]? with
  | none => false
  | some oi => (List.range ops.size).all fun j => j == i || !LF.getD j false || match ops[j]? with
      | some oj => oi.apart ops oj
      | none => true
theorem apartB_spec {i : Nat} {oi : Oper} (hi : ops[i]? = some oi) (h : apartB ops LF i = true) {j : Nat} {oj : Oper} (hj : ops[j]? = some oj) (hne : j ≠ i) (hl : LF.getD j false = true) : oi.apart ops oj = true := by
  simp only [apartB, hi, List.all_eq_true, List.mem_range] at h
  have h1 := h j (Array.getElem?_eq_some_iff.1 hj).1
  simpa [hj, hne, hl] using h1

/-- where a new variable lands -/
def Land (T : Nat → Array Bool → Act → World → Prop) (d : Tmp) (base : Nat) (obj : Obj) (k : Nat) (listed : Array Bool) (a : Act) (W : World) : Prop :=
  ∀ g, base ≤ g → W.heap[g]? = some obj → T k listed (a.put (some d) (.pointer (some ⟨g, 0, none⟩))) W

theorem LateOK_land {d : Tmp} {base : Nat} {obj : Obj} {i : Nat} {oi : Oper} {v : Value} (hs : ∀ cs b, oi.op ≠ .select cs b) (h1 : d ∉ oi.looksAt ops) (h2 : oi.dst ≠ some d) (h : LateOK P md ops T i oi v) :
    LateOK P md ops (Land T d base obj) i oi v := fun k listed a W hf hr hy hl g hb hg => by
  refine h k listed _ W hf hr (hy.of_same (execOp_put (ops := ops) oi hs a (some d) _ (fun d' hd' => ?_)) (wanted_put (ops := ops) oi a (some d) _ (fun d' hd' => ?_))) ?_
  · cases hd'; exact h1
  · cases hd'; exact h1
  · rw [← Act.put_comm a v _ (fun d' hd' => by rw [← hd']; exact Ne.symm h2)]
    exact hl g hb hg

theorem wpX_landed {i : Nat} {oi : Oper} {d : Tmp} {obj : Obj} {base g : Nat} (hi : ops[i]? = some oi) (hd : oi.dst = some d) (hs : Region.noSelect ops = true) (hap : apartB ops LF i = true)
    (hQ : ∀ v c a w, Q (.panic c) a w → Q (.panic c) (a.put oi.dst v) w) (hb : base ≤ g) :
    ∀ (n : Nat) (listed : Array Bool) (a : Act) (w : World), listed.getD i false = true → w.heap[g]? = some obj → wpX P md ops Q LF (Land T d base obj) n listed a w →
      wpX P md ops Q LF T n listed (a.put oi.dst (.pointer (some ⟨g, 0, none⟩))) w := by
  intro n
  induction n with
  | zero => intro listed a w _ hg h; exact ⟨h.1, fun W hW => by rw [hd]; exact h.2 W hW g hb (hW.heap hg)⟩
  | succ n ih =>
    intro listed a w hl hg h
    refine ⟨h.1, fun W hW j hj hjl => ?_, fun j hj hjl W hW => by rw [hd]; exact h.2.2 j hj hjl W hW g hb (hW.heap hg)⟩
    have h1 := h.2.1 W hW j hj hjl
    obtain ⟨hjun, oj, hoj, _⟩ := mem_ready.1 hj
    have hne : j ≠ i := fun e => by
      subst e
      exact ready_not hj hl
    refine wpOp_mono ?_ (wpOp_late (v := .pointer (some ⟨g, 0, none⟩)) hoj (apartB_spec hi hap hoj hne hjl) (fun cs b => Region.noSelect_spec hs j oj cs b hoj) (hQ _) h1)
    rintro a' w' ⟨a'', rfl, hE, hK⟩
    exact ⟨hE, ih _ _ _ (getD_set_true hl) ((hW.trans hE).heap hg) hK⟩

/-- a new variable may come up whenever it likes -/
theorem wpX_float {i : Nat} {oi : Oper} {d : Tmp} (obj : Obj) (hi : ops[i]? = some oi) (hd : oi.dst = some d) (hs : Region.noSelect ops = true) (hap : apartB ops LF i = true) (ht : tailB md ops LF i = true)
    (hQ : ∀ v c a w, Q (.panic c) a w → Q (.panic c) (a.put oi.dst v) w) (hg : oi.guard = none) (hm : ∀ (a : Act) (w : World), (execOp a.eval oi).run P w = .ok (.value (.pointer (some ⟨w.heap.size, 0, none⟩))) (w.alloc obj)) (base : Nat) :
    ∀ (n : Nat) (listed : Array Bool) (a : Act) (w : World), base ≤ w.heap.size → i ∈ Region.ready md ops listed → wpX P md ops Q LF (Land T d base obj) n (listed.setIfInBounds i true) a w →
      wpX P md ops Q LF T (n + 1) listed a w := by
  have hmake : ∀ n (listed : Array Bool) a w, base ≤ w.heap.size → i ∈ Region.ready md ops listed → wpX P md ops Q LF (Land T d base obj) n (listed.setIfInBounds i true) a w →
      wpOp P ops Q i (fun a' w' => Ext w w' ∧ wpX P md ops Q LF T n (listed.setIfInBounds i true) a' w') a w := fun n listed a w hb hr H => by
    unfold wpOp
    simp only [hi]
    rw [if_pos (by simp [Region.wanted, hg])]
    refine .inl ?_
    simp only [Oper.wp, hm a w, Oper.upon]
    refine ⟨(Ext.refl w).alloc obj, ?_⟩
    refine wpX_landed hi hd hs hap hQ hb n _ a _ ?_ (heap_alloc_new w obj) (H.grow ((Ext.refl w).alloc obj))
    have h0 := (mem_ready.1 hr).1
    rcases Nat.lt_or_ge i listed.size with h' | h'
    · simp [h']
    · simp [Array.getElem?_eq_none h'] at h0
  intro n
  induction n with
  | zero =>
    intro listed a w hb hr H
    refine ⟨fun h => (by rw [h] at hr; cases hr), fun W hW j hj hjl => ?_, fun j hj hjl W hW => (waits_not hj (mem_ready.1 hr).1 (tailB_spec ht hjl (ready_lt hj))).elim⟩
    by_cases hji : j = i
    · subst hji; exact hmake 0 listed a W (Nat.le_trans hb hW.size) hr (H.grow hW)
    · have h1 := ready_mono hj hji
      rw [H.1] at h1
      exact (ready_not h1 hjl).elim
  | succ n ih =>
    intro listed a w hb hr H
    refine ⟨fun h => (by rw [h] at hr; cases hr), fun W hW j hj hjl => ?_, fun j hj hjl W hW => (waits_not hj (mem_ready.1 hr).1 (tailB_spec ht hjl (ready_lt hj))).elim⟩
    by_cases hji : j = i
    · subst hji; exact hmake (n + 1) listed a W (Nat.le_trans hb hW.size) hr (H.grow hW)
    · have h1 := H.2.1 W hW j (ready_mono hj hji) hjl
      refine wpOp_mono (fun a' w' h3 => ⟨h3.1, ih (listed.setIfInBounds j true) a' w' (Nat.le_trans hb (hW.trans h3.1).size) ?_ ?_⟩) h1
      · exact ready_mono hr (Ne.symm hji)
      · rw [Array.setIfInBounds_comm _ _ hji]
        exact h3.2

/-- the one operation that may come up, and nobody else behind LF -/
theorem wpX_one {i : Nat} {n : Nat} {listed : Array Bool} {a : Act} {w : World} (hr : Region.ready md ops listed = [i]) (hLF : LF.getD i false = true)
    (h : ∀ W, Ext w W → wpOp P ops Q i (fun a' w' => Ext W w' ∧ wpX P md ops Q LF T n (listed.setIfInBounds i true) a' w') a W) : wpX P md ops Q LF T (n + 1) listed a w :=
  ⟨by rw [hr]; simp, fun W hW j hj _ => by
    rw [hr] at hj
    have : j = i := by simpa using hj
    subst this
    exact h W hW, fun j hj hjl => by
    rw [hr] at hj
    have : j = i := by simpa using hj
    subst this
    rw [hLF] at hjl
    cases hjl⟩

/-! the moves, the temporary and the outcome written out -/
/-- a value -/
theorem wpX_v (i : Nat) {oi : Oper} {d : Tmp} (v : Value) {n : Nat} {listed : Array Bool} {tm : Array Value} {df : List Deferred} {w : World} (hi : ops[i]? = some oi) (hd : oi.dst = some d)
    (hs : Region.noSelect ops = true) (hf : Region.free md ops listed i = true) (hr : (Region.ready md ops listed).contains i = true)
    (hQ : ∀ c a b w, Q (.panic c) a w → Q (.panic c) b w) (ht : tailB md ops LF i = true) (hLF : LF.getD i false = true)
    (hg : Region.wanted oi (yielded ops tm) = true) (hy : ∀ W, Ext w W → (execOp (Act.mk tm df).eval oi).run P W = .ok (.value v) W)
    (h : wpX P md ops Q LF T n (listed.setIfInBounds i true) ⟨tm.setIfInBounds d v, df⟩ w) : wpX P md ops Q LF T (n + 1) listed ⟨tm, df⟩ w :=
  wpX_val' hi (Region.noSelect_spec hs) (fun c a w => hQ c _ _ w) hLF n listed _ w (Region.free_spec hi hf) (by simpa using hr) (Or.inl ⟨hg, hy⟩) (.inl ht) (by rw [hd]; exact h)
/-- a value that no store waits for -/
theorem wpX_l (i : Nat) {oi : Oper} {d : Tmp} (v : Value) {n : Nat} {listed : Array Bool} {tm : Array Value} {df : List Deferred} {w : World} (hi : ops[i]? = some oi) (hd : oi.dst = some d)
    (hs : Region.noSelect ops = true) (hf : Region.free md ops listed i = true) (hr : (Region.ready md ops listed).contains i = true)
    (hQ : ∀ c a b w, Q (.panic c) a w → Q (.panic c) b w) (ht : LateOK P md ops T i oi v) (hLF : LF.getD i false = true)
    (hg : Region.wanted oi (yielded ops tm) = true) (hy : ∀ W, (execOp (Act.mk tm df).eval oi).run P W = .ok (.value v) W)
    (h : wpX P md ops Q LF T n (listed.setIfInBounds i true) ⟨tm.setIfInBounds d v, df⟩ w) : wpX P md ops Q LF T (n + 1) listed ⟨tm, df⟩ w :=
  wpX_val' hi (Region.noSelect_spec hs) (fun c a w => hQ c _ _ w) hLF n listed _ w (Region.free_spec hi hf) (by simpa using hr) (Or.inl ⟨hg, fun W _ => hy W⟩) (.inr ⟨ht, .inl ⟨hg, hy⟩⟩) (by rw [hd]; exact h)
/-- a call of a Go function -/
theorem wpX_c (i : Nat) {o : Oper} {d : Tmp} {n : Nat} {listed : Array Bool} {tm : Array Value} {df : List Deferred} {w : World} (f : FuncId) (args : Array Value) (ho : ops[i]? = some o) (hd : o.dst = some d) (hr : Region.ready md ops listed = [i]) (hLF : LF.getD i false = true)
    (hg : o.guard = none) (hx : ∀ W, (execOp (Act.mk tm df).eval o).run P W = .ok (.enter f args) W)
    (h : ∀ W, Ext w W → Calls P f args W (fun e w' => ∃ v, e = .returned v ∧ Ext W w' ∧ wpX P md ops Q LF T n (listed.setIfInBounds i true) ⟨tm.setIfInBounds d v, df⟩ w')) : wpX P md ops Q LF T (n + 1) listed ⟨tm, df⟩ w := by
  refine wpX_one hr hLF fun W hW => ?_
  unfold wpOp
  simp only [ho]
  rw [if_pos (by simp [Region.wanted, hg])]
  refine .inl ?_
  simp only [Oper.wp, hx W, Oper.upon]
  refine (h W hW).mono ?_
  rintro e w' ⟨v, rfl, hE, hK⟩
  exact ⟨hE, by rw [hd]; exact hK⟩
/-- a new variable -/
theorem wpX_f (i : Nat) {oi : Oper} {d : Tmp} (obj : Obj) {n : Nat} {listed : Array Bool} {a : Act} {w : World} (hi : ops[i]? = some oi) (hd : oi.dst = some d) (hs : Region.noSelect ops = true) (hap : apartB ops LF i = true) (ht : tailB md ops LF i = true)
    (hQ : ∀ c a b w, Q (.panic c) a w → Q (.panic c) b w) (hg : oi.guard = none) (hm : ∀ (a : Act) (w : World), (execOp a.eval oi).run P w = .ok (.value (.pointer (some ⟨w.heap.size, 0, none⟩))) (w.alloc obj)) (base : Nat)
    (hb : base ≤ w.heap.size) (hr : (Region.ready md ops listed).contains i = true) (h : wpX P md ops Q LF (Land T d base obj) n (listed.setIfInBounds i true) a w) :
      wpX P md ops Q LF T (n + 1) listed a w :=
  wpX_float obj hi hd hs hap ht (fun v c a w => hQ c _ _ w) hg hm base n listed _ w hb (by simpa using hr) h
theorem Land.mk {d : Tmp} {base : Nat} {obj : Obj} {k : Nat} {listed : Array Bool} {tm : Array Value} {df : List Deferred} {W : World}
    (h : ∀ g, base ≤ g → W.heap[g]? = some obj → T k listed ⟨tm.setIfInBounds d (.pointer (some ⟨g, 0, none⟩)), df⟩ W) : Land T d base obj k listed ⟨tm, df⟩ W := h
theorem wpX_end {listed : Array Bool} {a : Act} {w : World} (hl : listed = LF) (h : ∀ W, Ext w W → T 0 LF a W) : wpX P md ops Q LF T 0 listed a w := ⟨hl, h⟩
theorem tail_seq {l : List Oper} {Q' : Exit → Act → World → Prop} {m : Nat} {LF : Array Bool} {a : Act} {w : World} (k : Nat) (hm : (l.drop k).length = m)
    (hB : Region.seqB md l.toArray m k LF = true) (h : wpList P l.toArray Q' (l.drop k) a w) : wpAny P md l.toArray Q' (0 + m) LF a w := by
  subst hm
  rw [Nat.zero_add]
  exact wpAny_of_seq (l.drop k) k LF a w (fun j => by simp [List.getElem?_drop]) hB h

theorem wp_region_X {id : Nat} {a : Act} {w : World} (LF : Array Bool) (n m : Nat) (hm : P.follows .mixedOrders = true) (hn : n + m = ops.size)
    (h : wpX P .any ops (NoPanic Q) LF (fun k listed a W => wpAny P .any ops (NoPanic Q) (k + m) listed a W) n (Array.replicate ops.size false) a w.drew) : (Code.region id ops true).wp P Q a w :=
  wp_region_noPanic (wp_region_any hm (by
    have := wpX.any (fun k listed a W h => h) n _ _ _ h
    rw [hn] at this
    exact this))
end
end Go.Proofs.Ytopanbcodfkedaa
