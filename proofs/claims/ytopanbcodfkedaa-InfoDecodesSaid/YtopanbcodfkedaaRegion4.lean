/- The region theorem where the calls may change one block (a reader's): whatever is taken ahead must not look there. No statement about the program. -/
import Derived.Test.YtopanbcodfkedaaRegion3
namespace Go.Proofs.Ytopanbcodfkedaa
open Go.RowKit
set_option linter.unusedVariables false
theorem Ext.grownBy {a b : World} (h : Ext a b) (row : Option Nat) : a.grownBy b row := ⟨h.os, h.tape, h.output, h.size, fun i hi _ => h.block i hi⟩
theorem gtrans {a b c : World} {row : Option Nat} (h : a.grownBy b row) (k : b.grownBy c row) : a.grownBy c row := by
  have hs := h.size
  exact ⟨k.os.trans h.os, k.tape.trans h.tape, k.output.trans h.output, Nat.le_trans hs k.size, fun i hi hne => (k.block i (by omega) hne).trans (h.block i hi hne)⟩
section
variable {P : Program} {md : Region.Mode} {ops : Array Oper} {Q : Exit → Act → World → Prop} {LF : Array Bool} {T : Nat → Array Bool → Act → World → Prop} {r : Option Nat}

/-- whatever of LF comes up keeps what was there but for block r -/
def wpZ (P : Program) (md : Region.Mode) (ops : Array Oper) (Q : Exit → Act → World → Prop) (LF : Array Bool) (r : Option Nat) (T : Nat → Array Bool → Act → World → Prop) : Nat → Array Bool → Act → World → Prop
  | 0, listed, a, w => listed = LF ∧ ∀ W, Ext w W → T 0 LF a W
  | n + 1, listed, a, w => Region.ready md ops listed ≠ [] ∧
      (∀ W, Ext w W → ∀ i ∈ Region.ready md ops listed, LF.getD i false = true → wpOp P ops Q i (fun a' w' => W.grownBy w' r ∧ wpZ P md ops Q LF r T n (listed.setIfInBounds i true) a' w') a W) ∧
      (∀ i ∈ Region.ready md ops listed, LF.getD i false = false → ∀ W, Ext w W → T (n + 1) listed a W)
theorem wpZ.grow {n : Nat} {listed : Array Bool} {a : Act} {w W : World} (h : wpZ P md ops Q LF r T n listed a w) (he : Ext w W) : wpZ P md ops Q LF r T n listed a W := by
  cases n with
  | zero => exact ⟨h.1, fun W' hW' => h.2 W' (he.trans hW')⟩
  | succ n => exact ⟨h.1, fun W' hW' => h.2.1 W' (he.trans hW'), fun i hi hl W' hW' => h.2.2 i hi hl W' (he.trans hW')⟩
theorem wpZ.any {m : Nat} (hT : ∀ k listed a W, T k listed a W → wpAny P md ops Q (k + m) listed a W) : ∀ (n : Nat) (listed : Array Bool) (a : Act) (w : World), wpZ P md ops Q LF r T n listed a w → wpAny P md ops Q (n + m) listed a w
  | 0, listed, a, w, h => by
    obtain ⟨rfl, h2⟩ := h
    exact hT 0 _ a w (h2 w (Ext.refl w))
  | n + 1, listed, a, w, h => by
    by_cases hx : ∃ i, i ∈ Region.ready md ops listed ∧ LF.getD i false = false
    · obtain ⟨i, hi, hl⟩ := hx
      exact hT (n + 1) listed a w (h.2.2 i hi hl w (Ext.refl w))
    · rw [show n + 1 + m = (n + m) + 1 by omega]
      refine ⟨fun h0 => absurd h0 h.1, fun i hi => wpOp_mono (fun a' w' h' => wpZ.any hT n _ a' w' h'.2) (h.2.1 w (Ext.refl w) i hi ?_)⟩
      cases hl : LF.getD i false with
      | true => rfl
      | false => exact absurd ⟨i, hi, hl⟩ hx
/-- a value for which the tail waits, if need be by others -/
theorem wpZ_valT {i : Nat} {oi : Oper} {v : Value} (hi : ops[i]? = some oi) (hsel : ∀ (j : Nat) (o : Oper) cs b, ops[j]? = some o → o.op ≠ .select cs b)
    (hQ : ∀ c a w, Q (.panic c) (a.put oi.dst v) w → Q (.panic c) a w) (hLF : LF.getD i false = true) (ht : tailT md ops LF i = true) :
    ∀ (n : Nat) (listed : Array Bool) (a : Act) (w : World), Down md ops listed →
      (∀ j oj, ops[j]? = some oj → j ≠ i → listed.getD j true = false → (∀ e ∈ oj.after, Region.binds md e = true → e.on ≠ i) → oi.apart ops oj = true) →
      i ∈ Region.ready md ops listed → YieldsIf P ops (fun W => w.grownBy W r) oi v a →
      wpZ P md ops Q LF r T n (listed.setIfInBounds i true) (a.put oi.dst v) w → wpZ P md ops Q LF r T (n + 1) listed a w := by
  intro n
  induction n with
  | zero =>
    intro listed a w hdn hfree hr hy H
    refine ⟨fun h => (by rw [h] at hr; cases hr), fun W hW j hj hjl => ?_, fun j hj hjl W hW => (reachB_not hdn hj (mem_ready.1 hr).1 (tailT_spec ht hjl (ready_lt hj))).elim⟩
    by_cases hji : j = i
    · subst hji; exact hy.wpOp hi (hW.grownBy _) ⟨(Ext.refl _).grownBy _, H.grow hW⟩
    · have h1 := ready_mono hj hji
      rw [H.1] at h1
      exact (ready_not h1 hjl).elim
  | succ n ih =>
    intro listed a w hdn hfree hr hy H
    refine ⟨fun h => (by rw [h] at hr; cases hr), fun W hW j hj hjl => ?_, fun j hj hjl W hW => (reachB_not hdn hj (mem_ready.1 hr).1 (tailT_spec ht hjl (ready_lt hj))).elim⟩
    by_cases hji : j = i
    · subst hji; exact hy.wpOp hi (hW.grownBy _) ⟨(Ext.refl _).grownBy _, H.grow hW⟩
    · have h1 := H.2.1 W hW j (ready_mono hj hji) hjl
      obtain ⟨hjun, oj, hoj, hall⟩ := mem_ready.1 hj
      have hnot : ∀ e ∈ oj.after, Region.binds md e = true → e.on ≠ i := fun e he hb heq => by
        have h1 := hall e he hb
        rw [heq, getD_both (mem_ready.1 hr).1] at h1
        cases h1
      have hap := hfree j oj hoj hji hjun hnot
      have hfree' : ∀ k ok, ops[k]? = some ok → k ≠ i → (listed.setIfInBounds j true).getD k true = false →
          (∀ e ∈ ok.after, Region.binds md e = true → e.on ≠ i) → oi.apart ops ok = true := fun k ok hk hki hun hno => by
        refine hfree k ok hk hki ?_ hno
        by_cases hjk : j = k
        · subst hjk; exact hjun
        · rw [getD_set_ne true hjk] at hun; exact hun
      have h2 := wpOp_putIf hoj hap (fun cs b => hsel i oi cs b hi) (fun cs b => hsel j oj cs b hoj) hQ hy h1
      refine wpOp_mono (fun a' w' h3 => ⟨h3.2.1, ih (listed.setIfInBounds j true) a' w' (hdn.set hj) hfree' (ready_mono hr (Ne.symm hji)) ?_ ?_⟩) h2
      · exact h3.1.imp (fun ⟨hw, hv⟩ => ⟨hw, fun x hx => hv x (gtrans (gtrans (hW.grownBy _) h3.2.1) hx)⟩) id
      · rw [Array.setIfInBounds_comm _ _ hji]
        exact h3.2.2
theorem wpZ_v (i : Nat) {oi : Oper} {d : Tmp} (v : Value) {n : Nat} {listed : Array Bool} {tm : Array Value} {df : List Deferred} {w : World} (hi : ops[i]? = some oi) (hd : oi.dst = some d)
    (hs : Region.noSelect ops = true) (hf : Region.free md ops listed i = true) (hr : (Region.ready md ops listed).contains i = true)
    (hQ : ∀ c a b w, Q (.panic c) a w → Q (.panic c) b w) (ht : (tailT md ops LF i && downB md ops listed) = true) (hLF : LF.getD i false = true)
    (hg : Region.wanted oi (yielded ops tm) = true) (hy : ∀ W, w.grownBy W r → (execOp (Act.mk tm df).eval oi).run P W = .ok (.value v) W)
    (h : wpZ P md ops Q LF r T n (listed.setIfInBounds i true) ⟨tm.setIfInBounds d v, df⟩ w) : wpZ P md ops Q LF r T (n + 1) listed ⟨tm, df⟩ w :=
  wpZ_valT hi (Region.noSelect_spec hs) (fun c a w => hQ c _ _ w) hLF (by simp at ht; exact ht.1) n listed _ w (Down.of (by simp at ht; exact ht.2)) (Region.free_spec hi hf) (by simpa using hr) (Or.inl ⟨hg, hy⟩) (by rw [hd]; exact h)
/-- a value that is not wanted -/
theorem wpZ_u (i : Nat) {oi : Oper} {d : Tmp} {n : Nat} {listed : Array Bool} {tm : Array Value} {df : List Deferred} {w : World} (hi : ops[i]? = some oi) (hd : oi.dst = some d)
    (hs : Region.noSelect ops = true) (hf : Region.free md ops listed i = true) (hr : (Region.ready md ops listed).contains i = true)
    (hQ : ∀ c a b w, Q (.panic c) a w → Q (.panic c) b w) (ht : (tailT md ops LF i && downB md ops listed) = true) (hLF : LF.getD i false = true)
    (hg : Region.wanted oi (yielded ops tm) = false)
    (h : wpZ P md ops Q LF r T n (listed.setIfInBounds i true) ⟨tm.setIfInBounds d undef, df⟩ w) : wpZ P md ops Q LF r T (n + 1) listed ⟨tm, df⟩ w :=
  wpZ_valT hi (Region.noSelect_spec hs) (fun c a w => hQ c _ _ w) hLF (by simp at ht; exact ht.1) n listed _ w (Down.of (by simp at ht; exact ht.2)) (Region.free_spec hi hf) (by simpa using hr) (Or.inr ⟨hg, rfl⟩) (by rw [hd]; exact h)
theorem wpZ_landed {i : Nat} {oi : Oper} {d : Tmp} {obj : Obj} {base g : Nat} (hi : ops[i]? = some oi) (hd : oi.dst = some d) (hs : Region.noSelect ops = true) (hap : apartB ops LF i = true)
    (hQ : ∀ v c a w, Q (.panic c) a w → Q (.panic c) (a.put oi.dst v) w) (hb : base ≤ g) (hrb : some g ≠ r) :
    ∀ (n : Nat) (listed : Array Bool) (a : Act) (w : World), listed.getD i false = true → w.heap[g]? = some obj → wpZ P md ops Q LF r (Land T d base obj) n listed a w →
      wpZ P md ops Q LF r T n listed (a.put oi.dst (.pointer (some ⟨g, 0, none⟩))) w := by
  intro n
  induction n with
  | zero => intro listed a w _ hg h; exact ⟨h.1, fun W hW => by rw [hd]; exact h.2 W hW g hb (hW.heap hg)⟩
  | succ n ih =>
    intro listed a w hl hg h
    refine ⟨h.1, fun W hW j hj hjl => ?_, fun j hj hjl W hW => by rw [hd]; exact h.2.2 j hj hjl W hW g hb (hW.heap hg)⟩
    have h1 := h.2.1 W hW j hj hjl
    obtain ⟨hjun, oj, hoj, _⟩ := mem_ready.1 hj
    have hne : j ≠ i := fun e => by
      subst e
      exact ready_not hj hl
    refine wpOp_mono ?_ (wpOp_late (v := .pointer (some ⟨g, 0, none⟩)) hoj (apartB_spec hi hap hoj hne hjl) (fun cs b => Region.noSelect_spec hs j oj cs b hoj) (hQ _) h1)
    rintro a' w' ⟨a'', rfl, hE, hK⟩
    exact ⟨hE, ih _ _ _ (getD_set_true hl) (blk_grown (hW.heap hg) hE hrb) hK⟩
/-- a new variable may come up whenever it likes -/
theorem wpZ_float {i : Nat} {oi : Oper} {d : Tmp} (obj : Obj) (hi : ops[i]? = some oi) (hd : oi.dst = some d) (hs : Region.noSelect ops = true) (hap : apartB ops LF i = true) (ht : tailT md ops LF i = true)
    (hQ : ∀ v c a w, Q (.panic c) a w → Q (.panic c) (a.put oi.dst v) w) (hg : oi.guard = none) (hm : ∀ (a : Act) (w : World), (execOp a.eval oi).run P w = .ok (.value (.pointer (some ⟨w.heap.size, 0, none⟩))) (w.alloc obj)) (base : Nat) (hrb : ∀ k, r = some k → k < base) :
    ∀ (n : Nat) (listed : Array Bool) (a : Act) (w : World), Down md ops listed → base ≤ w.heap.size → i ∈ Region.ready md ops listed → wpZ P md ops Q LF r (Land T d base obj) n (listed.setIfInBounds i true) a w →
      wpZ P md ops Q LF r T (n + 1) listed a w := by
  have hmake : ∀ n (listed : Array Bool) a w, base ≤ w.heap.size → i ∈ Region.ready md ops listed → wpZ P md ops Q LF r (Land T d base obj) n (listed.setIfInBounds i true) a w →
      wpOp P ops Q i (fun a' w' => w.grownBy w' r ∧ wpZ P md ops Q LF r T n (listed.setIfInBounds i true) a' w') a w := fun n listed a w hb hr H => by
    unfold wpOp
    simp only [hi]
    rw [if_pos (by simp [Region.wanted, hg])]
    refine .inl ?_
    simp only [Oper.wp, hm a w, Oper.upon]
    refine ⟨((Ext.refl w).alloc obj).grownBy _, ?_⟩
    refine wpZ_landed hi hd hs hap hQ hb (fun e => by have := hrb _ e.symm; omega) n _ a _ ?_ (heap_alloc_new w obj) (H.grow ((Ext.refl w).alloc obj))
    have h0 := (mem_ready.1 hr).1
    rcases Nat.lt_or_ge i listed.size with h' | h'
    · simp [h']
    · simp [Array.getElem?_eq_none h'] at h0
  intro n
  induction n with
  | zero =>
    intro listed a w hdn hb hr H
    refine ⟨fun h => (by rw [h] at hr; cases hr), fun W hW j hj hjl => ?_, fun j hj hjl W hW => (reachB_not hdn hj (mem_ready.1 hr).1 (tailT_spec ht hjl (ready_lt hj))).elim⟩
    by_cases hji : j = i
    · subst hji; exact hmake 0 listed a W (Nat.le_trans hb hW.size) hr (H.grow hW)
    · have h1 := ready_mono hj hji
      rw [H.1] at h1
      exact (ready_not h1 hjl).elim
  | succ n ih =>
    intro listed a w hdn hb hr H
    refine ⟨fun h => (by rw [h] at hr; cases hr), fun W hW j hj hjl => ?_, fun j hj hjl W hW => (reachB_not hdn hj (mem_ready.1 hr).1 (tailT_spec ht hjl (ready_lt hj))).elim⟩
    by_cases hji : j = i
    · subst hji; exact hmake (n + 1) listed a W (Nat.le_trans hb hW.size) hr (H.grow hW)
    · have h1 := H.2.1 W hW j (ready_mono hj hji) hjl
      refine wpOp_mono (fun a' w' h3 => ⟨h3.1, ih (listed.setIfInBounds j true) a' w' (hdn.set hj) (Nat.le_trans hb (Nat.le_trans hW.size h3.1.size)) ?_ ?_⟩) h1
      · exact ready_mono hr (Ne.symm hji)
      · rw [Array.setIfInBounds_comm _ _ hji]
        exact h3.2
/-- the one operation that may come up -/
theorem wpZ_one {i : Nat} {n : Nat} {listed : Array Bool} {a : Act} {w : World} (hr : Region.ready md ops listed = [i]) (hLF : LF.getD i false = true)
    (h : ∀ W, Ext w W → wpOp P ops Q i (fun a' w' => W.grownBy w' r ∧ wpZ P md ops Q LF r T n (listed.setIfInBounds i true) a' w') a W) : wpZ P md ops Q LF r T (n + 1) listed a w :=
  ⟨by rw [hr]; simp, fun W hW j hj _ => by
    rw [hr] at hj
    have : j = i := by simpa using hj
    subst this
    exact h W hW, fun j hj hjl => by
    rw [hr] at hj
    have : j = i := by simpa using hj
    subst this
    rw [hLF] at hjl
    cases hjl⟩
theorem wpZ_c (i : Nat) {o : Oper} {d : Tmp} {n : Nat} {listed : Array Bool} {tm : Array Value} {df : List Deferred} {w : World} (f : FuncId) (args : Array Value) (ho : ops[i]? = some o) (hd : o.dst = some d) (hr : Region.ready md ops listed = [i]) (hLF : LF.getD i false = true)
    (hg : Region.wanted o (yielded ops tm) = true) (hx : ∀ W, (execOp (Act.mk tm df).eval o).run P W = .ok (.enter f args) W)
    (h : ∀ W, Ext w W → Calls P f args W (fun e w' => ∃ v, e = .returned v ∧ W.grownBy w' r ∧ wpZ P md ops Q LF r T n (listed.setIfInBounds i true) ⟨tm.setIfInBounds d v, df⟩ w')) : wpZ P md ops Q LF r T (n + 1) listed ⟨tm, df⟩ w := by
  refine wpZ_one hr hLF fun W hW => ?_
  unfold wpOp
  simp only [ho]
  rw [if_pos hg]
  refine .inl ?_
  simp only [Oper.wp, hx W, Oper.upon]
  refine (h W hW).mono ?_
  rintro e w' ⟨v, rfl, hE, hK⟩
  exact ⟨hE, by rw [hd]; exact hK⟩
/-- an operation that makes memory -/
theorem wpZ_m (i : Nat) {o : Oper} {d : Tmp} {n : Nat} {listed : Array Bool} {tm : Array Value} {df : List Deferred} {w : World} (ho : ops[i]? = some o) (hd : o.dst = some d) (hr : Region.ready md ops listed = [i]) (hLF : LF.getD i false = true)
    (hg : Region.wanted o (yielded ops tm) = true) (h : ∀ W, Ext w W → ∃ v W', (execOp (Act.mk tm df).eval o).run P W = .ok (.value v) W' ∧ W.grownBy W' r ∧ wpZ P md ops Q LF r T n (listed.setIfInBounds i true) ⟨tm.setIfInBounds d v, df⟩ W') : wpZ P md ops Q LF r T (n + 1) listed ⟨tm, df⟩ w := by
  refine wpZ_one hr hLF fun W hW => ?_
  obtain ⟨v, W', hx, hE, hK⟩ := h W hW
  unfold wpOp
  simp only [ho]
  rw [if_pos hg]
  refine .inl ?_
  simp only [Oper.wp, hx, Oper.upon]
  exact ⟨hE, by rw [hd]; exact hK⟩
/-- a new variable -/
theorem wpZ_f (i : Nat) {oi : Oper} {d : Tmp} (obj : Obj) {n : Nat} {listed : Array Bool} {a : Act} {w : World} (hi : ops[i]? = some oi) (hd : oi.dst = some d) (hs : Region.noSelect ops = true) (hap : apartB ops LF i = true) (ht : (tailT md ops LF i && downB md ops listed) = true)
    (hQ : ∀ c a b w, Q (.panic c) a w → Q (.panic c) b w) (hg : oi.guard = none) (hm : ∀ (a : Act) (w : World), (execOp a.eval oi).run P w = .ok (.value (.pointer (some ⟨w.heap.size, 0, none⟩))) (w.alloc obj)) (base : Nat) (hrb : ∀ k, r = some k → k < base)
    (hb : base ≤ w.heap.size) (hr : (Region.ready md ops listed).contains i = true) (h : wpZ P md ops Q LF r (Land T d base obj) n (listed.setIfInBounds i true) a w) :
      wpZ P md ops Q LF r T (n + 1) listed a w :=
  wpZ_float obj hi hd hs hap (by simp at ht; exact ht.1) (fun v c a w => hQ c _ _ w) hg hm base hrb n listed _ w (Down.of (by simp at ht; exact ht.2)) hb (by simpa using hr) h
theorem wpZ_end {listed : Array Bool} {a : Act} {w : World} (hl : listed = LF) (h : ∀ W, Ext w W → T 0 LF a W) : wpZ P md ops Q LF r T 0 listed a w := ⟨hl, h⟩
theorem wp_region_Z {id : Nat} {a : Act} {w : World} (LF : Array Bool) (r : Option Nat) (n m : Nat) (hm : P.follows .mixedOrders = true) (hn : n + m = ops.size)
    (h : wpZ P .any ops (NoPanic Q) LF r (fun k listed a W => wpAny P .any ops (NoPanic Q) (k + m) listed a W) n (Array.replicate ops.size false) a w.drew) : (Code.region id ops true).wp P Q a w :=
  wp_region_noPanic (wp_region_any hm (by
    have := wpZ.any (fun k listed a W h => h) n _ _ _ h
    rw [hn] at this
    exact this))
end
end Go.Proofs.Ytopanbcodfkedaa
