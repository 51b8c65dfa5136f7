/- How an argument of type []api.LineTable, or api.LineTable, is opened. -/
import Derived.Test.YtopanbcodfkedaaOpenS
import Derived.Test.YtopanbcodfkedaaLinA
import Derived.Deep.Slices
namespace Go.Proofs.Ytopanbcodfkedaa
open Go.ChangeShapes Go.WideShapes Go.ChangeAt Go.RowKit Go.Joins Go.Deep
set_option linter.unusedVariables false

theorem Rd.app {w : World} {a : Addr} {xs ys : List Value} (h : Rd w (some a) xs) (k : ∀ i u, ys[i]? = some u → w.cell? (a.add (xs.length + i)) = some u) : Rd w (some a) (xs ++ ys) := fun j u hu => by
  by_cases hj : j < xs.length
  · rw [List.getElem?_append_left hj] at hu
    exact h j u hu
  · rw [List.getElem?_append_right (by omega)] at hu
    refine ⟨a, rfl, ?_⟩
    have := k _ u hu
    rwa [show xs.length + (j - xs.length) = j by omega] at this
section
variable {H : Type} {enc : TypeId × Value → H} {P : Program} {w : World} {base : Nat} {held : Bool}
/-- a slice of elements of several cells -/
theorem trod_row {α : Type} {f : α → List Value} {Q : α → Prop} {t e : TypeId} {k fuel : Nat} {v : Value} {x : DataW H × List MemPlace} (ht : P.underlying t = some (.slice e)) (hc : P.cellsOf e = k) (hk : 0 < k)
    (hel : ∀ (m : Nat) (cs : List Value) (y : DataW H × List MemPlace), DataW.trod enc P w base (fun _ => true) held m e cs = some y → ∃ a, cs = f a ∧ (f a).length = k ∧ Q a)
    (h : DataW.trod enc P w base (fun _ => true) held fuel t [v] = some x) : ∃ l : List α, InR f w v l ∧ l.length ≤ maxLen ∧ ∀ a ∈ l, (f a).length = k ∧ Q a := by
  rcases open_slice ht h with ⟨hcs, _⟩ | ⟨a, len, cap, m, n, D, Pl, hcs, _, hl, hm, hmm, _, hall⟩
  · simp at hcs; subst hcs
    exact ⟨[], InR.nil w, Nat.zero_le _, by simp⟩
  · simp at hcs; subst hcs
    simp only [if_true] at hmm
    have key : ∀ j, j ≤ len → ∃ l : List α, l.length = j ∧ Rd w (some a) (l.flatMap f) ∧ ∀ a ∈ l, (f a).length = k ∧ Q a := by
      intro j
      induction j with
      | zero => intro _; exact ⟨[], rfl, Rd.nil, by simp⟩
      | succ j ih =>
        intro hj
        obtain ⟨l, h1, h2, h3⟩ := ih (by omega)
        obtain ⟨cs', hc1, hc2⟩ := hall j (by omega)
        obtain ⟨b, rfl, hb1, hb2⟩ := hel _ _ _ hc2
        obtain ⟨_, _, hcell⟩ := World.cells?_some hc1
        have hfl := flat_len l (fun x hx => (h3 x hx).1)
        refine ⟨l ++ [b], by simp [h1], ?_, ?_⟩
        · rw [List.flatMap_append, List.flatMap_cons, List.flatMap_nil, List.append_nil]
          refine h2.app fun i u hu => ?_
          have hi : i < (f b).length := (List.getElem?_eq_some_iff.1 hu).1
          rw [hfl, h1, ← add_add, ← hu]
          have := hcell i (by omega)
          rw [hc] at this
          exact this
        · intro y hy
          rcases List.mem_append.1 hy with hy | hy
          · exact h3 y hy
          · simp only [List.mem_singleton] at hy
            subst hy
            exact ⟨hb1, hb2⟩
    obtain ⟨l, h1, h2, h3⟩ := key len (Nat.le_refl _)
    exact ⟨l, ⟨some a, cap, by rw [h1], by omega, h2⟩, by omega, h3⟩
end
section
variable {H : Type} {enc : TypeId × Value → H} {w : World} {base : Nat} {held : Bool}
theorem c_row : Try.prog.cellsOf 160 = 4 := by kernel_rfl
theorem trod_lrow {m : Nat} {cs : List Value} {y : DataW H × List MemPlace} (h : DataW.trod enc Try.prog w base (fun _ => true) held m 160 cs = some y) : ∃ z : LRow, cs = lrowCells z ∧ (lrowCells z).length = 4 ∧ True := by
  obtain ⟨hl, n, hf⟩ := trod_fields Try.underlying160 (by kernel_rfl) (by kernel_rfl) h
  match cs, hl with
  | [c0, c1, c2, c3], _ =>
    obtain ⟨u0, y0, e0, t0⟩ := hf 0 _ rfl
    obtain ⟨u1, y1, e1, t1⟩ := hf 1 _ rfl
    obtain ⟨u2, y2, e2, t2⟩ := hf 2 _ rfl
    obtain ⟨u3, y3, e3, t3⟩ := hf 3 _ rfl
    simp only [List.getElem?_cons_zero, List.getElem?_cons_succ, Option.some.injEq] at e0 e1 e2 e3
    subst e0 e1 e2 e3
    obtain ⟨k0, e0, _, w0⟩ := DataW.trod_int Try.underlying3 t0
    obtain ⟨k1, e1, _, w1⟩ := DataW.trod_int Try.underlying3 t1
    obtain ⟨k2, e2, _, w2⟩ := DataW.trod_int Try.underlying3 t2
    obtain ⟨k3, e3, _⟩ := DataW.trod_bool Try.underlying4 t3
    injection e0 with e0
    injection e1 with e1
    injection e2 with e2
    injection e3 with e3
    subst e0 e1 e2 e3
    exact ⟨⟨k0, k1, k2, k3⟩, rfl, rfl, trivial⟩
end
end Go.Proofs.Ytopanbcodfkedaa
