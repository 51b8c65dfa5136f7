/- The map of ends of rightRanges. -/
import Derived.Test.YtokmbdeafjmcjaaLcB
import Derived.Test.YtokmbdeafjmcjaaCfM
import Derived.DeepKeys4
namespace Go.Proofs.Ytokmbdeafjmcjaa
open Go.RowKit
set_option linter.unusedVariables false
set_option linter.unusedSimpArgs false

def pv (k : Int × Int × Int) : Value := .agg #[.int .i64 k.1, .int .i64 k.2.1, .int .i64 k.2.2]
def I64 (n : Int) : Prop := -9223372036854775808 ≤ n ∧ n ≤ 9223372036854775807
theorem pe_laid : laidOutB Try.prog = true := by kernel_rfl
theorem pe_row : (156 : TypeId) < Try.prog.types.size := of_decide_eq_true (by kernel_rfl)
set_option maxRecDepth 100000 in
theorem pe_wide : (match Try.prog.underlying 156 with | some (.array _ _) | some (.struct _) => true | _ => false) = true := by rw [Try.underlying156]
set_option maxRecDepth 100000 in
theorem pe_law : Maps.Keyed Try.prog 156 := Maps.Keyed.of_law (deep_law_laid pe_laid (m := 2) (by omega) pe_row (by kernel_rfl) pe_wide)
theorem pe_cells : Try.prog.cellsOf 156 = 3 := by kernel_rfl
theorem in_cells : Try.prog.cellsOf 3 = 1 := by kernel_rfl
theorem wf_int {n : Int} (h : I64 n) : (Lit.int .i64 n).wf = true := by
  unfold I64 at h
  simp [Lit.wf, IntKind.min, IntKind.max, IntKind.bits, IntKind.signed]
  omega
set_option maxRecDepth 100000 in
theorem key_pv {k : Int × Int × Int} (h1 : I64 k.1) (h2 : I64 k.2.1) (h3 : I64 k.2.2) : ∃ l, keyOf Try.prog 156 (pv k) = some l := by
  obtain ⟨m, hm⟩ : ∃ m, Try.prog.types.size = m + 1 := ⟨Try.prog.types.size - 1, by have : 0 < Try.prog.types.size := of_decide_eq_true (by kernel_rfl); omega⟩
  have hkt : Try.prog.keyType 156 = true := by kernel_rfl
  have hfo : (pv k).formed Try.prog 156 = true := by simp [pv, Value.formed, Try.underlying156, pe_cells]
  have w1 := wf_int h1
  have w2 := wf_int h2
  have w3 := wf_int h3
  unfold keyOf
  rw [Try.underlying156]
  simp only [hkt, hfo, Bool.and_self, if_true]
  rw [hm]
  simp [Program.keyLits, Try.underlying156, Try.underlying3, pe_cells, in_cells, pv, Value.cells, w1, w2, w3]
/-- a map from pieces to numbers -/
def MP (b n : Nat) (W : World) (E : Int × Int × Int → Option Int) : Prop := ∃ D : DataW Value, W.ownsMap Try.prog 156 heldR b n D ∧ Maps.IsMap D ∧ ∀ k l, keyOf Try.prog 156 (pv k) = some l → ∀ zd, D.atKey l zd = (E k).elim zd (fun v => .held (.int .i64 v))
theorem MP.made (w : World) : MP w.heap.size 0 (w.alloc (.map #[] 0)) (fun _ => none) := ⟨.map [], World.ownsMap_made w _ _ _, Maps.isMap_empty, fun k l _ zd => rfl⟩
section
variable {b n : Nat} {W W' : World} {E : Int × Int × Int → Option Int}
theorem MP.blk (h : MP b n W E) : b < W.heap.size := by obtain ⟨D, h1, _⟩ := h; exact h1.lt
theorem MP.ext (h : MP b n W E) (he : Ext W W') : MP b n W' E := by
  obtain ⟨D, h1, h2, h3⟩ := h
  exact ⟨D, h1.kept (he.grownBy none) (by simp), h2, h3⟩
theorem zero_in (w : World) : (zeroValue 3).run Try.prog w = .ok (.int .i64 0) w := by go_simp
set_option maxRecDepth 100000 in
theorem MP.look (h : MP b n W E) {k : Int × Int × Int} (h1 : I64 k.1) (h2 : I64 k.2.1) (h3 : I64 k.2.2) :
    (Instr.lookup 151 (.map (some b)) (pv k) true).run Try.prog W = .ok (.tuple #[.int .i64 ((E k).getD 0), .bool (E k).isSome]) W := by
  obtain ⟨D, ⟨es, clock, hb, F, _, hD⟩, _, hat⟩ := h
  obtain ⟨l, hl⟩ := key_pv h1 h2 h3
  have hat' := hat k l hl
  rw [hD] at hat'
  rcases Maps.fit_look (t := 151) (e := 3) true pe_law Try.underlying151 (zero_in W) hb F hl with ⟨hr, _, hz⟩ | ⟨e0, y, _, _, hr, hy, hz, _⟩
  · rw [hr]
    cases hE : E k with
    | none => rfl
    | some v =>
      have := (hz .nil).symm.trans (hat' .nil)
      rw [hE] at this
      cases this
  · rw [hr]
    have hy' : y = (.held e0.val, []) := by unfold heldR at hy; injection hy with hy; exact hy.symm
    cases hE : E k with
    | none =>
      have := (hz .nil).symm.trans (hat' .nil)
      rw [hE, hy'] at this
      cases this
    | some v =>
      have := (hz .nil).symm.trans (hat' .nil)
      rw [hE, hy'] at this
      simp only [Option.elim_some, DataW.held.injEq] at this
      rw [this]
      rfl
set_option maxRecDepth 100000 in
theorem MP.put (h : MP b n W E) {k : Int × Int × Int} (h1 : I64 k.1) (h2 : I64 k.2.1) (h3 : I64 k.2.2) (hn : n < 9223372036854775807) (v : Int) :
    ∃ W2, (Instr.mapUpdate 151 (.map (some b)) (pv k) (.int .i64 v)).run Try.prog W = .ok () W2 ∧ MP b (n + 1) W2 (fun x => if x = k then some v else E x) ∧ W.grownBy W2 (some b) := by
  obtain ⟨D, hM, hI, hat⟩ := h
  obtain ⟨l, hl⟩ := key_pv h1 h2 h3
  obtain ⟨W2, hr, h4, h5⟩ := hM.update (t := 151) (e := 3) pe_law Try.underlying151 (by simp only [maxLen]; omega) hl (d := .held (.int .i64 v)) (ps := []) rfl
  refine ⟨W2, hr, ⟨_, h4, hI.put _ _, fun x lx hlx zd => ?_⟩, h5⟩
  by_cases hx : x = k
  · subst hx
    rw [hl] at hlx
    injection hlx with hlx
    subst hlx
    simp only [if_true]
    exact Maps.atKey_put_same hI (pe_law.key hl) _ _
  · simp only [if_neg hx]
    have hne : lx ≠ l := fun e => hx (by
      rw [e] at hlx
      have := pe_law.inj hlx hl
      unfold pv at this
      simp only [Value.agg.injEq, Array.mk.injEq, List.cons.injEq, Value.int.injEq, true_and, and_true] at this
      obtain ⟨e1, e2, e3⟩ := this
      exact Prod.ext e1 (Prod.ext e2 e3))
    rw [Maps.atKey_put_other hne]
    exact hat x lx hlx zd
end
end Go.Proofs.Ytokmbdeafjmcjaa
