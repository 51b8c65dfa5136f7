/- How arguments of type api.Entry and []api.Entry are opened. -/
import Derived.Test.YtopanbcodfkedaaOpenL
import Derived.Test.YtopanbcodfkedaaInfA
namespace Go.Proofs.Ytopanbcodfkedaa
open Go.ChangeShapes Go.WideShapes Go.ChangeAt Go.RowKit Go.Joins Go.Deep
set_option linter.unusedVariables false

section
variable {H : Type} {enc : TypeId × Value → H} {w : World} {base : Nat} {held : Bool}
theorem c_att : Try.prog.cellsOf 40 = 4 := by kernel_rfl
theorem c_ent : Try.prog.cellsOf 26 = 3 := by kernel_rfl
theorem trod_att {m : Nat} {cs : List Value} {y : DataW H × List MemPlace} (h : DataW.trod enc Try.prog w base (fun _ => true) held m 40 cs = some y) : ∃ z : Att, cs = attCells z ∧ (attCells z).length = 4 ∧ z.I := by
  obtain ⟨hl, n, hf⟩ := trod_fields Try.underlying40 (by kernel_rfl) (by kernel_rfl) h
  match cs, hl with
  | [c0, c1, c2, c3], _ =>
    obtain ⟨u0, y0, e0, t0⟩ := hf 0 _ rfl
    obtain ⟨u1, y1, e1, t1⟩ := hf 1 _ rfl
    obtain ⟨u2, y2, e2, t2⟩ := hf 2 _ rfl
    obtain ⟨u3, y3, e3, t3⟩ := hf 3 _ rfl
    simp only [List.getElem?_cons_zero, List.getElem?_cons_succ, Option.some.injEq] at e0 e1 e2 e3
    subst e0 e1 e2 e3
    obtain ⟨k0, e0, _, w0⟩ := DataW.trod_int Try.underlying3 t0
    obtain ⟨k1, e1, _, w1⟩ := DataW.trod_int Try.underlying3 t1
    obtain ⟨k2, e2, _, w2⟩ := DataW.trod_int Try.underlying3 t2
    obtain ⟨k3, e3, _, w3⟩ := DataW.trod_string Try.underlying9 t3
    injection e0 with e0
    injection e1 with e1
    injection e2 with e2
    injection e3 with e3
    subst e0 e1 e2 e3
    exact ⟨⟨k0, k1, k2, k3⟩, rfl, rfl, ⟨wf_i64 w2, wf_i64 w1, by simpa [maxLen] using w3⟩⟩
set_option maxRecDepth 100000 in
theorem trod_ent {m : Nat} {cs : List Value} {y : DataW H × List MemPlace} (h : DataW.trod enc Try.prog w base (fun _ => true) held m 26 cs = some y) : ∃ z : Ent × Value, cs = entCells z ∧ (entCells z).length = 3 ∧ (InR attCells w z.2 z.1.attrs ∧ z.1.I) := by
  obtain ⟨hl, n, hf⟩ := trod_fields Try.underlying26 (by kernel_rfl) (by kernel_rfl) h
  match cs, hl with
  | [c0, c1, c2], _ =>
    obtain ⟨u0, y0, e0, t0⟩ := hf 0 _ rfl
    obtain ⟨u1, y1, e1, t1⟩ := hf 1 _ rfl
    obtain ⟨u2, y2, e2, t2⟩ := hf 2 _ rfl
    simp only [List.getElem?_cons_zero, List.getElem?_cons_succ, Option.some.injEq] at e0 e1 e2
    subst e0 e1 e2
    obtain ⟨k0, e0, _, w0⟩ := DataW.trod_int Try.underlying3 t0
    obtain ⟨k1, e1, _, w1⟩ := DataW.trod_int Try.underlying3 t1
    obtain ⟨rs, i2, m2, z2⟩ := trod_row (f := attCells) (Q := fun a => a.I) Try.underlying24 c_att (by omega) (fun m cs y h => trod_att h) t2
    injection e0 with e0
    injection e1 with e1
    subst e0 e1
    exact ⟨(⟨k0, k1, rs⟩, c2), rfl, rfl, i2, wf_i64 w0, by simpa [maxLen] using m2, fun a ha => (z2 a ha).2⟩
set_option maxRecDepth 100000 in
theorem open_ents {fuel : Nat} {v : Value} {x : DataW H × List MemPlace} (h : DataW.trod enc Try.prog w base (fun _ => true) held fuel 22 [v] = some x) : ∃ l : List Ent, Ents w v l ∧ (∀ t ∈ l, t.I) ∧ l.length ≤ 9223372036854775807 := by
  obtain ⟨zs, i1, m1, z1⟩ := trod_row (f := entCells) (Q := fun z => InR attCells w z.2 z.1.attrs ∧ z.1.I) Try.underlying22 c_ent (by omega) (fun m cs y h => trod_ent h) h
  refine ⟨zs.map Prod.fst, ⟨zs, rfl, i1, fun z hz => (z1 z hz).2.1⟩, fun t ht => ?_, by rw [List.length_map]; exact m1⟩
  obtain ⟨z, hz, rfl⟩ := List.mem_map.1 ht
  exact (z1 z hz).2.2
set_option maxRecDepth 100000 in
theorem open_ent {r : Reach} {b0 : Nat} {v : Value} {d : DataW H} {p : List MemPlace} (hv : Value.okWide Try.prog w r b0 26 v) (h : DataW.Trod enc Try.prog w base (fun _ => true) held 26 v d p) :
    ∃ (t : Ent) (A : Option Addr) (n c : Nat), v = .agg #[.int .i64 t.depth, .int .i64 t.tag, .slice A n c] ∧ InR attCells w (.slice A n c) t.attrs ∧ n = t.attrs.length ∧ t.I := by
  obtain ⟨cs, rfl, hsz⟩ := okWide_struct Try.underlying26 hv
  obtain ⟨fuel, hf⟩ := h
  obtain ⟨cl⟩ := cs
  have hf' : DataW.trod enc Try.prog w base (fun _ => true) held fuel 26 cl = some (d, p) := hf
  obtain ⟨⟨t, y⟩, rfl, _, hz, hi⟩ := trod_ent hf'
  obtain ⟨A, c, hy, hr⟩ := id hz
  dsimp only at hy
  subst hy
  exact ⟨t, A, _, c, rfl, hz, rfl, hi⟩
end
end Go.Proofs.Ytopanbcodfkedaa
