/- How a struct of one-cell fields is opened. No program here. -/
import Derived.Test.YtokmbdeafjmcjaaOpen
import Derived.Lib.SmallJoins
import Derived.Test.YtokmbdeafjmcjaaLinA
import Derived.Deep.Slices
import Derived.Test.YtokmbdeafjmcjaaLcC
import Derived.Test.YtokmbdeafjmcjaaLcG
namespace Go.Proofs.Ytokmbdeafjmcjaa
open Go.ChangeShapes Go.WideShapes Go.ChangeAt Go.RowKit Go.Joins Go.Deep

section
variable {H : Type} {enc : TypeId × Value → H} {P : Program} {w : World} {base : Nat} {spare : Nat → Bool} {held : Bool}
theorem trod_fields {t : TypeId} {fs : Array Field} {fuel : Nat} {cs : List Value} {x : DataW H × List MemPlace} (hs : P.underlying t = some (.struct fs)) (hone : oneCellFields P fs = true) (hC : P.cellsOf t = fs.size)
    (h : DataW.trod enc P w base spare held fuel t cs = some x) :
    cs.length = fs.size ∧ ∃ n, ∀ (j : Nat) (f : Field), fs[j]? = some f → ∃ u y, cs[j]? = some u ∧ DataW.trod enc P w base spare held n f.type [u] = some y := by
  obtain ⟨ys, n, hn, hy, hlen, hyl, hf⟩ := DataW.trod_struct hs h
  rw [hC] at hlen
  refine ⟨hlen, n, fun j f hj => ?_⟩
  obtain ⟨ho, hk⟩ := hone_of hone j f hj
  have hjl : j < fs.size := (Array.getElem?_eq_some_iff.1 hj).1
  have h1 := hf j f hj
  rw [ho, hk] at h1
  have hone' : (cs.drop j).take 1 = [cs[j]'(by omega)] := by
    rw [List.drop_eq_getElem_cons (by omega)]
    rfl
  rw [hone'] at h1
  exact ⟨_, _, List.getElem?_eq_getElem (by omega), h1.trans (List.getElem?_eq_getElem (by omega))⟩
theorem open_fields {r : Reach} {b0 : Nat} {t : TypeId} {fs : Array Field} {v : Value} {d : DataW H} {p : List MemPlace} (hs : P.underlying t = some (.struct fs)) (hone : oneCellFields P fs = true) (hC : P.cellsOf t = fs.size)
    (hv : Value.okWide P w r b0 t v) (h : DataW.Trod enc P w base spare held t v d p) :
    ∃ cs : List Value, v = .agg cs.toArray ∧ cs.length = fs.size ∧ ∃ n, ∀ (j : Nat) (f : Field), fs[j]? = some f → ∃ u y, cs[j]? = some u ∧ DataW.trod enc P w base spare held n f.type [u] = some y := by
  obtain ⟨cs, rfl, hsz⟩ := okWide_struct hs hv
  obtain ⟨fuel, hf⟩ := h
  obtain ⟨cl⟩ := cs
  have hf' : DataW.trod enc P w base spare held fuel t cl = some (d, p) := hf
  obtain ⟨h1, n, h2⟩ := trod_fields hs hone hC hf'
  exact ⟨cl, rfl, h1, n, h2⟩
theorem list6 {α : Type} {l : List α} (h : l.length = 6) : ∃ a b c d e f, l = [a, b, c, d, e, f] := by
  rcases l with _ | ⟨a, _ | ⟨b, _ | ⟨c, _ | ⟨d, _ | ⟨e, _ | ⟨f, _ | ⟨g, l⟩⟩⟩⟩⟩⟩⟩ <;> simp at h
  exact ⟨a, b, c, d, e, f, rfl⟩
theorem list5S {α : Type} {l : List α} (h : l.length = 5) : ∃ a b c d e, l = [a, b, c, d, e] := by
  rcases l with _ | ⟨a, _ | ⟨b, _ | ⟨c, _ | ⟨d, _ | ⟨e, _ | ⟨g, l⟩⟩⟩⟩⟩⟩ <;> simp at h
  exact ⟨a, b, c, d, e, rfl⟩
end
end Go.Proofs.Ytokmbdeafjmcjaa
/- How an argument of type []api.LineTable, or api.LineTable, is opened. -/
namespace Go.Proofs.Ytokmbdeafjmcjaa
open Go.ChangeShapes Go.WideShapes Go.ChangeAt Go.RowKit Go.Joins Go.Deep
set_option linter.unusedVariables false

theorem Rd.app {w : World} {a : Addr} {xs ys : List Value} (h : Rd w (some a) xs) (k : ∀ i u, ys[i]? = some u → w.cell? (a.add (xs.length + i)) = some u) : Rd w (some a) (xs ++ ys) := fun j u hu => by
  by_cases hj : j < xs.length
  · rw [List.getElem?_append_left hj] at hu
    exact h j u hu
  · rw [List.getElem?_append_right (by omega)] at hu
    refine ⟨a, rfl, ?_⟩
    have := k _ u hu
    rwa [show xs.length + (j - xs.length) = j by omega] at this
section
variable {H : Type} {enc : TypeId × Value → H} {P : Program} {w : World} {base : Nat} {held : Bool}
/-- a slice of elements of several cells -/
theorem trod_row {α : Type} {f : α → List Value} {Q : α → Prop} {t e : TypeId} {k fuel : Nat} {v : Value} {x : DataW H × List MemPlace} (ht : P.underlying t = some (.slice e)) (hc : P.cellsOf e = k) (hk : 0 < k)
    (hel : ∀ (m : Nat) (cs : List Value) (y : DataW H × List MemPlace), DataW.trod enc P w base (fun _ => true) held m e cs = some y → ∃ a, cs = f a ∧ (f a).length = k ∧ Q a)
    (h : DataW.trod enc P w base (fun _ => true) held fuel t [v] = some x) : ∃ l : List α, InR f w v l ∧ l.length ≤ maxLen ∧ ∀ a ∈ l, (f a).length = k ∧ Q a := by
  rcases open_slice ht h with ⟨hcs, _⟩ | ⟨a, len, cap, m, n, D, Pl, hcs, _, hl, hm, hmm, _, hall⟩
  · simp at hcs; subst hcs
    exact ⟨[], InR.nil w, Nat.zero_le _, by simp⟩
  · simp at hcs; subst hcs
    simp only [if_true] at hmm
    have key : ∀ j, j ≤ len → ∃ l : List α, l.length = j ∧ Rd w (some a) (l.flatMap f) ∧ ∀ a ∈ l, (f a).length = k ∧ Q a := by
      intro j
      induction j with
      | zero => intro _; exact ⟨[], rfl, Rd.nil, by simp⟩
      | succ j ih =>
        intro hj
        obtain ⟨l, h1, h2, h3⟩ := ih (by omega)
        obtain ⟨cs', hc1, hc2⟩ := hall j (by omega)
        obtain ⟨b, rfl, hb1, hb2⟩ := hel _ _ _ hc2
        obtain ⟨_, _, hcell⟩ := World.cells?_some hc1
        have hfl := flat_len l (fun x hx => (h3 x hx).1)
        refine ⟨l ++ [b], by simp [h1], ?_, ?_⟩
        · rw [List.flatMap_append, List.flatMap_cons, List.flatMap_nil, List.append_nil]
          refine h2.app fun i u hu => ?_
          have hi : i < (f b).length := (List.getElem?_eq_some_iff.1 hu).1
          rw [hfl, h1, ← add_add, ← hu]
          have := hcell i (by omega)
          rw [hc] at this
          exact this
        · intro y hy
          rcases List.mem_append.1 hy with hy | hy
          · exact h3 y hy
          · simp only [List.mem_singleton] at hy
            subst hy
            exact ⟨hb1, hb2⟩
    obtain ⟨l, h1, h2, h3⟩ := key len (Nat.le_refl _)
    exact ⟨l, ⟨some a, cap, by rw [h1], by omega, h2⟩, by omega, h3⟩
end
section
variable {H : Type} {enc : TypeId × Value → H} {w : World} {base : Nat} {held : Bool}
theorem c_row : Try.prog.cellsOf 53 = 4 := by kernel_rfl
theorem c_tab : Try.prog.cellsOf 46 = 3 := by kernel_rfl
theorem trod_lrow {m : Nat} {cs : List Value} {y : DataW H × List MemPlace} (h : DataW.trod enc Try.prog w base (fun _ => true) held m 53 cs = some y) : ∃ z : LRow, cs = lrowCells z ∧ (lrowCells z).length = 4 ∧ True := by
  obtain ⟨hl, n, hf⟩ := trod_fields Try.underlying53 (by kernel_rfl) (by kernel_rfl) h
  match cs, hl with
  | [c0, c1, c2, c3], _ =>
    obtain ⟨u0, y0, e0, t0⟩ := hf 0 _ rfl
    obtain ⟨u1, y1, e1, t1⟩ := hf 1 _ rfl
    obtain ⟨u2, y2, e2, t2⟩ := hf 2 _ rfl
    obtain ⟨u3, y3, e3, t3⟩ := hf 3 _ rfl
    simp only [List.getElem?_cons_zero, List.getElem?_cons_succ, Option.some.injEq] at e0 e1 e2 e3
    subst e0 e1 e2 e3
    obtain ⟨k0, e0, _, w0⟩ := DataW.trod_int Try.underlying3 t0
    obtain ⟨k1, e1, _, w1⟩ := DataW.trod_int Try.underlying3 t1
    obtain ⟨k2, e2, _, w2⟩ := DataW.trod_int Try.underlying3 t2
    obtain ⟨k3, e3, _⟩ := DataW.trod_bool Try.underlying4 t3
    injection e0 with e0
    injection e1 with e1
    injection e2 with e2
    injection e3 with e3
    subst e0 e1 e2 e3
    exact ⟨⟨k0, k1, k2, k3⟩, rfl, rfl, trivial⟩
set_option maxRecDepth 100000 in
theorem trod_ltab {m : Nat} {cs : List Value} {y : DataW H × List MemPlace} (h : DataW.trod enc Try.prog w base (fun _ => true) held m 46 cs = some y) : ∃ z : LTab × Value, cs = ltabCells z ∧ (ltabCells z).length = 3 ∧ (InR lrowCells w z.2 z.1.rows ∧ z.1.I) := by
  obtain ⟨hl, n, hf⟩ := trod_fields Try.underlying46 (by kernel_rfl) (by kernel_rfl) h
  match cs, hl with
  | [c0, c1, c2], _ =>
    obtain ⟨u0, y0, e0, t0⟩ := hf 0 _ rfl
    obtain ⟨u1, y1, e1, t1⟩ := hf 1 _ rfl
    obtain ⟨u2, y2, e2, t2⟩ := hf 2 _ rfl
    simp only [List.getElem?_cons_zero, List.getElem?_cons_succ, Option.some.injEq] at e0 e1 e2
    subst e0 e1 e2
    obtain ⟨k0, e0, _, w0⟩ := DataW.trod_int Try.underlying3 t0
    obtain ⟨k1, e1, _, w1⟩ := DataW.trod_int Try.underlying3 t1
    obtain ⟨rs, i2, m2, z2⟩ := trod_row (f := lrowCells) (Q := fun _ => True) Try.underlying44 c_row (by omega) (fun m cs y h => trod_lrow h) t2
    injection e0 with e0
    injection e1 with e1
    subst e0 e1
    exact ⟨(⟨k0, k1, rs⟩, c2), rfl, rfl, i2, wf_i64 w0, wf_i64 w1, by simpa [maxLen] using m2⟩
set_option maxRecDepth 100000 in
theorem open_ltabs {fuel : Nat} {v : Value} {x : DataW H × List MemPlace} (h : DataW.trod enc Try.prog w base (fun _ => true) held fuel 43 [v] = some x) : ∃ l : List LTab, LTabs w v l ∧ (∀ t ∈ l, t.I) ∧ l.length ≤ 9223372036854775807 := by
  obtain ⟨zs, i1, m1, z1⟩ := trod_row (f := ltabCells) (Q := fun z => InR lrowCells w z.2 z.1.rows ∧ z.1.I) Try.underlying43 c_tab (by omega) (fun m cs y h => trod_ltab h) h
  refine ⟨zs.map Prod.fst, ⟨zs, rfl, i1, fun z hz => (z1 z hz).2.1⟩, fun t ht => ?_, by rw [List.length_map]; exact m1⟩
  obtain ⟨z, hz, rfl⟩ := List.mem_map.1 ht
  exact (z1 z hz).2.2
set_option maxRecDepth 100000 in
theorem open_ltab {r : Reach} {b0 : Nat} {v : Value} {d : DataW H} {p : List MemPlace} (hv : Value.okWide Try.prog w r b0 46 v) (h : DataW.Trod enc Try.prog w base (fun _ => true) held 46 v d p) :
    ∃ (t : LTab) (y : Value), v = .agg #[.int .i64 t.lo, .int .i64 t.hi, y] ∧ InR lrowCells w y t.rows ∧ t.I := by
  obtain ⟨cs, rfl, hsz⟩ := okWide_struct Try.underlying46 hv
  obtain ⟨fuel, hf⟩ := h
  obtain ⟨cl⟩ := cs
  have hf' : DataW.trod enc Try.prog w base (fun _ => true) held fuel 46 cl = some (d, p) := hf
  obtain ⟨z, rfl, _, hz, hi⟩ := trod_ltab hf'
  exact ⟨z.1, z.2, rfl, hz, hi⟩
end
end Go.Proofs.Ytokmbdeafjmcjaa
/- How an argument of type []api.PlaceList is opened. Printed by mkencodes19.py. -/
namespace Go.Proofs.Ytokmbdeafjmcjaa
open Go.ChangeShapes Go.WideShapes Go.ChangeAt Go.RowKit Go.Joins Go.Deep
set_option linter.unusedVariables false

section
variable {H : Type} {enc : TypeId × Value → H} {w : World} {base : Nat} {held : Bool}
theorem c_plc : Try.prog.cellsOf 75 = 3 := by kernel_rfl
theorem c_rng : Try.prog.cellsOf 69 = 6 := by kernel_rfl
theorem c_ptab : Try.prog.cellsOf 66 = 3 := by kernel_rfl
theorem trod_plc {m : Nat} {cs : List Value} {y : DataW H × List MemPlace} (h : DataW.trod enc Try.prog w base (fun _ => true) held m 75 cs = some y) : ∃ z : Plc, cs = plcCells z ∧ (plcCells z).length = 3 ∧ I64 z.add := by
  obtain ⟨hl, n, hf⟩ := trod_fields Try.underlying75 (by kernel_rfl) (by kernel_rfl) h
  match cs, hl with
  | [c0, c1, c2], _ =>
    obtain ⟨u0, y0, e0, t0⟩ := hf 0 _ rfl
    obtain ⟨u1, y1, e1, t1⟩ := hf 1 _ rfl
    obtain ⟨u2, y2, e2, t2⟩ := hf 2 _ rfl
    simp only [List.getElem?_cons_zero, List.getElem?_cons_succ, Option.some.injEq] at e0 e1 e2
    subst e0 e1 e2
    obtain ⟨k0, e0, _, w0⟩ := DataW.trod_int Try.underlying3 t0
    obtain ⟨k1, e1, _, w1⟩ := DataW.trod_int Try.underlying3 t1
    obtain ⟨k2, e2, _, w2⟩ := DataW.trod_int Try.underlying3 t2
    injection e0 with e0
    injection e1 with e1
    injection e2 with e2
    subst e0 e1 e2
    exact ⟨⟨k0, k1, k2⟩, rfl, rfl, wf_i64 w2⟩
def RngQ (w : World) (z : Rng × Value) : Prop := InR plcCells w z.2 z.1.places ∧ z.1.places.length ≤ 9223372036854775807 ∧ ∀ p ∈ z.1.places, I64 p.add
set_option maxRecDepth 100000 in
theorem trod_rng {m : Nat} {cs : List Value} {y : DataW H × List MemPlace} (h : DataW.trod enc Try.prog w base (fun _ => true) held m 69 cs = some y) : ∃ z : Rng × Value, cs = rngCells z ∧ (rngCells z).length = 6 ∧ RngQ w z := by
  obtain ⟨hl, n, hf⟩ := trod_fields Try.underlying69 (by kernel_rfl) (by kernel_rfl) h
  match cs, hl with
  | [c0, c1, c2, c3, c4, c5], _ =>
    obtain ⟨u0, y0, e0, t0⟩ := hf 0 _ rfl
    obtain ⟨u1, y1, e1, t1⟩ := hf 1 _ rfl
    obtain ⟨u2, y2, e2, t2⟩ := hf 2 _ rfl
    obtain ⟨u3, y3, e3, t3⟩ := hf 3 _ rfl
    obtain ⟨u4, y4, e4, t4⟩ := hf 4 _ rfl
    obtain ⟨u5, y5, e5, t5⟩ := hf 5 _ rfl
    simp only [List.getElem?_cons_zero, List.getElem?_cons_succ, Option.some.injEq] at e0 e1 e2 e3 e4 e5
    subst e0 e1 e2 e3 e4 e5
    obtain ⟨k0, e0, _, w0⟩ := DataW.trod_int Try.underlying3 t0
    obtain ⟨k1, e1, _, w1⟩ := DataW.trod_int Try.underlying3 t1
    obtain ⟨k2, e2, _, w2⟩ := DataW.trod_int Try.underlying3 t2
    obtain ⟨k3, e3, _, w3⟩ := DataW.trod_int Try.underlying3 t3
    obtain ⟨k4, e4, _, w4⟩ := DataW.trod_int Try.underlying3 t4
    obtain ⟨ps, i5, m5, z5⟩ := trod_row (f := plcCells) (Q := fun p => I64 p.add) Try.underlying67 c_plc (by omega) (fun m cs y h => trod_plc h) t5
    injection e0 with e0
    injection e1 with e1
    injection e2 with e2
    injection e3 with e3
    injection e4 with e4
    subst e0 e1 e2 e3 e4
    exact ⟨(⟨k0, k1, k2, k3, k4, ps⟩, c5), rfl, rfl, i5, by simpa [maxLen] using m5, fun p hp => (z5 p hp).2⟩
def PlQ (w : World) (z : PTab × Value) : Prop := RngsIn w z.2 z.1.ranges ∧ z.1.I ∧ ∀ r ∈ z.1.ranges, ∀ p ∈ r.places, I64 p.add
set_option maxRecDepth 100000 in
theorem trod_ptab {m : Nat} {cs : List Value} {y : DataW H × List MemPlace} (h : DataW.trod enc Try.prog w base (fun _ => true) held m 66 cs = some y) : ∃ z : PTab × Value, cs = ptabCells z ∧ (ptabCells z).length = 3 ∧ PlQ w z := by
  obtain ⟨hl, n, hf⟩ := trod_fields Try.underlying66 (by kernel_rfl) (by kernel_rfl) h
  match cs, hl with
  | [c0, c1, c2], _ =>
    obtain ⟨u0, y0, e0, t0⟩ := hf 0 _ rfl
    obtain ⟨u1, y1, e1, t1⟩ := hf 1 _ rfl
    obtain ⟨u2, y2, e2, t2⟩ := hf 2 _ rfl
    simp only [List.getElem?_cons_zero, List.getElem?_cons_succ, Option.some.injEq] at e0 e1 e2
    subst e0 e1 e2
    obtain ⟨k0, e0, _, w0⟩ := DataW.trod_int Try.underlying3 t0
    obtain ⟨k1, e1, _, w1⟩ := DataW.trod_int Try.underlying3 t1
    obtain ⟨zs, i2, m2, z2⟩ := trod_row (f := rngCells) (Q := fun z => RngQ w z) Try.underlying64 c_rng (by omega) (fun m cs y h => trod_rng h) t2
    injection e0 with e0
    injection e1 with e1
    subst e0 e1
    refine ⟨(⟨k0, k1, zs.map Prod.fst⟩, c2), rfl, rfl, ⟨zs, rfl, i2, fun z hz => (z2 z hz).2.1⟩, ⟨wf_i64 w0, wf_i64 w1, by rw [List.length_map]; simpa [maxLen] using m2, fun r hr => ?_⟩, fun r hr => ?_⟩
    · obtain ⟨z, hz, rfl⟩ := List.mem_map.1 hr
      exact (z2 z hz).2.2.1
    · obtain ⟨z, hz, rfl⟩ := List.mem_map.1 hr
      exact (z2 z hz).2.2.2
set_option maxRecDepth 100000 in
theorem open_ptabs {fuel : Nat} {v : Value} {x : DataW H × List MemPlace} (h : DataW.trod enc Try.prog w base (fun _ => true) held fuel 63 [v] = some x) : ∃ l : List PTab, PTabs w v l ∧ (∀ t ∈ l, t.I) ∧ AddsIn l ∧ l.length ≤ 9223372036854775807 := by
  obtain ⟨zs, i1, m1, z1⟩ := trod_row (f := ptabCells) (Q := fun z => PlQ w z) Try.underlying63 c_ptab (by omega) (fun m cs y h => trod_ptab h) h
  refine ⟨zs.map Prod.fst, ⟨zs, rfl, i1, fun z hz => (z1 z hz).2.1⟩, fun t ht => ?_, fun t ht => ?_, by rw [List.length_map]; exact m1⟩
  · obtain ⟨z, hz, rfl⟩ := List.mem_map.1 ht
    exact (z1 z hz).2.2.1
  · obtain ⟨z, hz, rfl⟩ := List.mem_map.1 ht
    exact (z1 z hz).2.2.2
end
end Go.Proofs.Ytokmbdeafjmcjaa
