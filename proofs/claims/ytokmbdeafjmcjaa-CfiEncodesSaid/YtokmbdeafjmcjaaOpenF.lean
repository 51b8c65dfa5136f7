/- How an argument of type []api.FrameTable is opened. -/
import Derived.Test.YtokmbdeafjmcjaaOpenL
import Derived.Test.YtokmbdeafjmcjaaCfA
namespace Go.Proofs.Ytokmbdeafjmcjaa
open Go.ChangeShapes Go.WideShapes Go.ChangeAt Go.RowKit Go.Joins Go.Deep
set_option linter.unusedVariables false

section
variable {H : Type} {enc : TypeId × Value → H} {w : World} {base : Nat} {held : Bool}
theorem c_stp : Try.prog.cellsOf 78 = 2 := by kernel_rfl
theorem c_obj : Try.prog.cellsOf 83 = 4 := by kernel_rfl
theorem c_ftab : Try.prog.cellsOf 27 = 4 := by kernel_rfl
theorem trod_stp {m : Nat} {cs : List Value} {y : DataW H × List MemPlace} (h : DataW.trod enc Try.prog w base (fun _ => true) held m 78 cs = some y) : ∃ z : Stp, cs = stpCells z ∧ (stpCells z).length = 2 ∧ True := by
  obtain ⟨hl, n, hf⟩ := trod_fields Try.underlying78 (by kernel_rfl) (by kernel_rfl) h
  match cs, hl with
  | [c0, c1], _ =>
    obtain ⟨u0, y0, e0, t0⟩ := hf 0 _ rfl
    obtain ⟨u1, y1, e1, t1⟩ := hf 1 _ rfl
    simp only [List.getElem?_cons_zero, List.getElem?_cons_succ, Option.some.injEq] at e0 e1
    subst e0 e1
    obtain ⟨k0, e0, _, w0⟩ := DataW.trod_int Try.underlying3 t0
    obtain ⟨k1, e1, _, w1⟩ := DataW.trod_int Try.underlying3 t1
    injection e0 with e0
    injection e1 with e1
    subst e0 e1
    exact ⟨⟨k0, k1⟩, rfl, rfl, trivial⟩
theorem trod_obj {m : Nat} {cs : List Value} {y : DataW H × List MemPlace} (h : DataW.trod enc Try.prog w base (fun _ => true) held m 83 cs = some y) : ∃ z : Obj, cs = objCells z ∧ (objCells z).length = 4 ∧ True := by
  obtain ⟨hl, n, hf⟩ := trod_fields Try.underlying83 (by kernel_rfl) (by kernel_rfl) h
  match cs, hl with
  | [c0, c1, c2, c3], _ =>
    obtain ⟨u0, y0, e0, t0⟩ := hf 0 _ rfl
    obtain ⟨u1, y1, e1, t1⟩ := hf 1 _ rfl
    obtain ⟨u2, y2, e2, t2⟩ := hf 2 _ rfl
    obtain ⟨u3, y3, e3, t3⟩ := hf 3 _ rfl
    simp only [List.getElem?_cons_zero, List.getElem?_cons_succ, Option.some.injEq] at e0 e1 e2 e3
    subst e0 e1 e2 e3
    obtain ⟨k0, e0, _, w0⟩ := DataW.trod_int Try.underlying3 t0
    obtain ⟨k1, e1, _, w1⟩ := DataW.trod_int Try.underlying3 t1
    obtain ⟨k2, e2, _, w2⟩ := DataW.trod_int Try.underlying3 t2
    obtain ⟨k3, e3, _, w3⟩ := DataW.trod_int Try.underlying3 t3
    injection e0 with e0
    injection e1 with e1
    injection e2 with e2
    injection e3 with e3
    subst e0 e1 e2 e3
    exact ⟨⟨k0, k1, k2, k3⟩, rfl, rfl, trivial⟩
set_option maxRecDepth 100000 in
theorem trod_ftab {m : Nat} {cs : List Value} {y : DataW H × List MemPlace} (h : DataW.trod enc Try.prog w base (fun _ => true) held m 27 cs = some y) : ∃ z : FTab × Value × Value, cs = ftabCells z ∧ (ftabCells z).length = 4 ∧ ((InR stpCells w z.2.1 z.1.steps ∧ InR objCells w z.2.2 z.1.objs) ∧ z.1.I) := by
  obtain ⟨hl, n, hf⟩ := trod_fields Try.underlying27 (by kernel_rfl) (by kernel_rfl) h
  match cs, hl with
  | [c0, c1, c2, c3], _ =>
    obtain ⟨u0, y0, e0, t0⟩ := hf 0 _ rfl
    obtain ⟨u1, y1, e1, t1⟩ := hf 1 _ rfl
    obtain ⟨u2, y2, e2, t2⟩ := hf 2 _ rfl
    obtain ⟨u3, y3, e3, t3⟩ := hf 3 _ rfl
    simp only [List.getElem?_cons_zero, List.getElem?_cons_succ, Option.some.injEq] at e0 e1 e2 e3
    subst e0 e1 e2 e3
    obtain ⟨k0, e0, _, w0⟩ := DataW.trod_int Try.underlying3 t0
    obtain ⟨k1, e1, _, w1⟩ := DataW.trod_int Try.underlying3 t1
    obtain ⟨rs, i2, m2, z2⟩ := trod_row (f := stpCells) (Q := fun _ => True) Try.underlying24 c_stp (by omega) (fun m cs y h => trod_stp h) t2
    obtain ⟨os, i3, m3, z3⟩ := trod_row (f := objCells) (Q := fun _ => True) Try.underlying25 c_obj (by omega) (fun m cs y h => trod_obj h) t3
    injection e0 with e0
    injection e1 with e1
    subst e0 e1
    exact ⟨(⟨k0, k1, rs, os⟩, c2, c3), rfl, rfl, ⟨i2, i3⟩, wf_i64 w0, wf_i64 w1, by simpa [maxLen] using m2, by simpa [maxLen] using m3⟩
set_option maxRecDepth 100000 in
theorem open_ftabs {fuel : Nat} {v : Value} {x : DataW H × List MemPlace} (h : DataW.trod enc Try.prog w base (fun _ => true) held fuel 22 [v] = some x) : ∃ l : List FTab, FTabs w v l ∧ (∀ t ∈ l, t.I) ∧ l.length ≤ 9223372036854775807 := by
  obtain ⟨zs, i1, m1, z1⟩ := trod_row (f := ftabCells) (Q := fun z => (InR stpCells w z.2.1 z.1.steps ∧ InR objCells w z.2.2 z.1.objs) ∧ z.1.I) Try.underlying22 c_ftab (by omega) (fun m cs y h => trod_ftab h) h
  refine ⟨zs.map Prod.fst, ⟨zs, rfl, i1, fun z hz => (z1 z hz).2.1⟩, fun t ht => ?_, by rw [List.length_map]; exact m1⟩
  obtain ⟨z, hz, rfl⟩ := List.mem_map.1 ht
  exact (z1 z hz).2.2
end
end Go.Proofs.Ytokmbdeafjmcjaa
