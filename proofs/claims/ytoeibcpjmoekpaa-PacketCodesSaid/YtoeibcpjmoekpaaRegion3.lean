/- More moves of the region theorem: guarded calls, an operation that makes memory. No statement about the program. -/
import Derived.Test.YtoeibcpjmoekpaaRegion2
namespace Go.Proofs.Ytoeibcpjmoekpaa
open Go.RowKit
set_option linter.unusedVariables false
section
variable {P : Program} {md : Region.Mode} {ops : Array Oper} {Q : Exit → Act → World → Prop} {LF : Array Bool} {T : Nat → Array Bool → Act → World → Prop}
/-- a call of a Go function, guarded or not -/
theorem wpX_cg (i : Nat) {o : Oper} {d : Tmp} {n : Nat} {listed : Array Bool} {tm : Array Value} {df : List Deferred} {w : World} (f : FuncId) (args : Array Value) (ho : ops[i]? = some o) (hd : o.dst = some d) (hr : Region.ready md ops listed = [i]) (hLF : LF.getD i false = true)
    (hg : Region.wanted o (yielded ops tm) = true) (hx : ∀ W, (execOp (Act.mk tm df).eval o).run P W = .ok (.enter f args) W)
    (h : ∀ W, Ext w W → Calls P f args W (fun e w' => ∃ v, e = .returned v ∧ Ext W w' ∧ wpX P md ops Q LF T n (listed.setIfInBounds i true) ⟨tm.setIfInBounds d v, df⟩ w')) : wpX P md ops Q LF T (n + 1) listed ⟨tm, df⟩ w := by
  refine wpX_one hr hLF fun W hW => ?_
  unfold wpOp
  simp only [ho]
  rw [if_pos hg]
  refine .inl ?_
  simp only [Oper.wp, hx W, Oper.upon]
  refine (h W hW).mono ?_
  rintro e w' ⟨v, rfl, hE, hK⟩
  exact ⟨hE, by rw [hd]; exact hK⟩
/-- an operation that makes memory -/
theorem wpX_m (i : Nat) {o : Oper} {d : Tmp} {n : Nat} {listed : Array Bool} {tm : Array Value} {df : List Deferred} {w : World} (ho : ops[i]? = some o) (hd : o.dst = some d) (hr : Region.ready md ops listed = [i]) (hLF : LF.getD i false = true)
    (hg : Region.wanted o (yielded ops tm) = true) (h : ∀ W, Ext w W → ∃ v W', (execOp (Act.mk tm df).eval o).run P W = .ok (.value v) W' ∧ Ext W W' ∧ wpX P md ops Q LF T n (listed.setIfInBounds i true) ⟨tm.setIfInBounds d v, df⟩ W') : wpX P md ops Q LF T (n + 1) listed ⟨tm, df⟩ w := by
  refine wpX_one hr hLF fun W hW => ?_
  obtain ⟨v, W', hx, hE, hK⟩ := h W hW
  unfold wpOp
  simp only [ho]
  rw [if_pos hg]
  refine .inl ?_
  simp only [Oper.wp, hx, Oper.upon]
  exact ⟨hE, by rw [hd]; exact hK⟩
/-- the end of a region without a tail -/
theorem tail_none {Q' : Exit → Act → World → Prop} {LF : Array Bool} {a : Act} {w : World} (hB : Region.ready md ops LF = []) (h : Q' .normal a w) : wpAny P md ops Q' (0 + 0) LF a w := ⟨hB, h⟩
end
end Go.Proofs.Ytoeibcpjmoekpaa
