/- More moves of the region theorem: guarded calls, an operation that makes memory. No statement about the program. -/
import Derived.Test.YtopanbcodfkedaaRegion2
namespace Go.Proofs.Ytopanbcodfkedaa
open Go.RowKit
set_option linter.unusedVariables false
section
variable {P : Program} {md : Region.Mode} {ops : Array Oper} {Q : Exit → Act → World → Prop} {LF : Array Bool} {T : Nat → Array Bool → Act → World → Prop}
/-- a value for which the tail waits, if need be by others -/
theorem wpX_valT {i : Nat} {oi : Oper} {v : Value} (hi : ops[i]? = some oi) (hsel : ∀ (j : Nat) (o : Oper) cs b, ops[j]? = some o → o.op ≠ .select cs b)
    (hQ : ∀ c a w, Q (.panic c) (a.put oi.dst v) w → Q (.panic c) a w) (hLF : LF.getD i false = true) (ht : tailT md ops LF i = true) :
    ∀ (n : Nat) (listed : Array Bool) (a : Act) (w : World), Down md ops listed →
      (∀ j oj, ops[j]? = some oj → j ≠ i → listed.getD j true = false → (∀ e ∈ oj.after, Region.binds md e = true → e.on ≠ i) → oi.apart ops oj = true) →
      i ∈ Region.ready md ops listed → YieldsIf P ops (Ext w) oi v a →
      wpX P md ops Q LF T n (listed.setIfInBounds i true) (a.put oi.dst v) w → wpX P md ops Q LF T (n + 1) listed a w := by
  intro n
  induction n with
  | zero =>
    intro listed a w hdn hfree hr hy H
    refine ⟨fun h => (by rw [h] at hr; cases hr), fun W hW j hj hjl => ?_, fun j hj hjl W hW => (reachB_not hdn hj (mem_ready.1 hr).1 (tailT_spec ht hjl (ready_lt hj))).elim⟩
    by_cases hji : j = i
    · subst hji; exact hy.wpOp hi hW ⟨Ext.refl _, H.grow hW⟩
    · have h1 := ready_mono hj hji
      rw [H.1] at h1
      exact (ready_not h1 hjl).elim
  | succ n ih =>
    intro listed a w hdn hfree hr hy H
    refine ⟨fun h => (by rw [h] at hr; cases hr), fun W hW j hj hjl => ?_, fun j hj hjl W hW => (reachB_not hdn hj (mem_ready.1 hr).1 (tailT_spec ht hjl (ready_lt hj))).elim⟩
    by_cases hji : j = i
    · subst hji; exact hy.wpOp hi hW ⟨Ext.refl _, H.grow hW⟩
    · have h1 := H.2.1 W hW j (ready_mono hj hji) hjl
      obtain ⟨hjun, oj, hoj, hall⟩ := mem_ready.1 hj
      have hnot : ∀ e ∈ oj.after, Region.binds md e = true → e.on ≠ i := fun e he hb heq => by
        have h1 := hall e he hb
        rw [heq, getD_both (mem_ready.1 hr).1] at h1
        cases h1
      have hap := hfree j oj hoj hji hjun hnot
      have hfree' : ∀ k ok, ops[k]? = some ok → k ≠ i → (listed.setIfInBounds j true).getD k true = false →
          (∀ e ∈ ok.after, Region.binds md e = true → e.on ≠ i) → oi.apart ops ok = true := fun k ok hk hki hun hno => by
        refine hfree k ok hk hki ?_ hno
        by_cases hjk : j = k
        · subst hjk; exact hjun
        · rw [getD_set_ne true hjk] at hun; exact hun
      have h2 := wpOp_putIf hoj hap (fun cs b => hsel i oi cs b hi) (fun cs b => hsel j oj cs b hoj) hQ hy h1
      refine wpOp_mono (fun a' w' h3 => ⟨h3.2.1, ih (listed.setIfInBounds j true) a' w' (hdn.set hj) hfree' (ready_mono hr (Ne.symm hji)) ?_ ?_⟩) h2
      · exact h3.1.imp (fun ⟨hw, hv⟩ => ⟨hw, fun x hx => hv x ((hW.trans h3.2.1).trans hx)⟩) id
      · rw [Array.setIfInBounds_comm _ _ hji]
        exact h3.2.2
theorem wpX_vt (i : Nat) {oi : Oper} {d : Tmp} (v : Value) {n : Nat} {listed : Array Bool} {tm : Array Value} {df : List Deferred} {w : World} (hi : ops[i]? = some oi) (hd : oi.dst = some d)
    (hs : Region.noSelect ops = true) (hf : Region.free md ops listed i = true) (hr : (Region.ready md ops listed).contains i = true)
    (hQ : ∀ c a b w, Q (.panic c) a w → Q (.panic c) b w) (ht : (tailT md ops LF i && downB md ops listed) = true) (hLF : LF.getD i false = true)
    (hg : Region.wanted oi (yielded ops tm) = true) (hy : ∀ W, Ext w W → (execOp (Act.mk tm df).eval oi).run P W = .ok (.value v) W)
    (h : wpX P md ops Q LF T n (listed.setIfInBounds i true) ⟨tm.setIfInBounds d v, df⟩ w) : wpX P md ops Q LF T (n + 1) listed ⟨tm, df⟩ w :=
  wpX_valT hi (Region.noSelect_spec hs) (fun c a w => hQ c _ _ w) hLF (by simp at ht; exact ht.1) n listed _ w (Down.of (by simp at ht; exact ht.2)) (Region.free_spec hi hf) (by simpa using hr) (Or.inl ⟨hg, hy⟩) (by rw [hd]; exact h)
/-- a call of a Go function, guarded or not -/
theorem wpX_cg (i : Nat) {o : Oper} {d : Tmp} {n : Nat} {listed : Array Bool} {tm : Array Value} {df : List Deferred} {w : World} (f : FuncId) (args : Array Value) (ho : ops[i]? = some o) (hd : o.dst = some d) (hr : Region.ready md ops listed = [i]) (hLF : LF.getD i false = true)
    (hg : Region.wanted o (yielded ops tm) = true) (hx : ∀ W, (execOp (Act.mk tm df).eval o).run P W = .ok (.enter f args) W)
    (h : ∀ W, Ext w W → Calls P f args W (fun e w' => ∃ v, e = .returned v ∧ Ext W w' ∧ wpX P md ops Q LF T n (listed.setIfInBounds i true) ⟨tm.setIfInBounds d v, df⟩ w')) : wpX P md ops Q LF T (n + 1) listed ⟨tm, df⟩ w := by
  refine wpX_one hr hLF fun W hW => ?_
  unfold wpOp
  simp only [ho]
  rw [if_pos hg]
  refine .inl ?_
  simp only [Oper.wp, hx W, Oper.upon]
  refine (h W hW).mono ?_
  rintro e w' ⟨v, rfl, hE, hK⟩
  exact ⟨hE, by rw [hd]; exact hK⟩
/-- an operation that makes memory -/
theorem wpX_m (i : Nat) {o : Oper} {d : Tmp} {n : Nat} {listed : Array Bool} {tm : Array Value} {df : List Deferred} {w : World} (ho : ops[i]? = some o) (hd : o.dst = some d) (hr : Region.ready md ops listed = [i]) (hLF : LF.getD i false = true)
    (hg : Region.wanted o (yielded ops tm) = true) (h : ∀ W, Ext w W → ∃ v W', (execOp (Act.mk tm df).eval o).run P W = .ok (.value v) W' ∧ Ext W W' ∧ wpX P md ops Q LF T n (listed.setIfInBounds i true) ⟨tm.setIfInBounds d v, df⟩ W') : wpX P md ops Q LF T (n + 1) listed ⟨tm, df⟩ w := by
  refine wpX_one hr hLF fun W hW => ?_
  obtain ⟨v, W', hx, hE, hK⟩ := h W hW
  unfold wpOp
  simp only [ho]
  rw [if_pos hg]
  refine .inl ?_
  simp only [Oper.wp, hx, Oper.upon]
  exact ⟨hE, by rw [hd]; exact hK⟩
/-- the end of a region without a tail -/
theorem tail_none {Q' : Exit → Act → World → Prop} {LF : Array Bool} {a : Act} {w : World} (hB : Region.ready md ops LF = []) (h : Q' .normal a w) : wpAny P md ops Q' (0 + 0) LF a w := ⟨hB, h⟩
end
end Go.Proofs.Ytopanbcodfkedaa
