/- How an argument of type transport.Endpoint is opened. -/
import Derived.Test.YtpngmnfjefplkaaOpenP
import Derived.Test.YtpngmnfjefplkaaTraA
import Derived.Deep.Slices
namespace Go.Proofs.Ytpngmnfjefplkaa
open Go.ChangeShapes Go.WideShapes Go.ChangeAt Go.RowKit Go.Joins Go.Deep
set_option linter.unusedVariables false
theorem list8 {α : Type} {l : List α} (h : l.length = 8) : ∃ a b c d e f g i, l = [a, b, c, d, e, f, g, i] := by
  match l, h with
  | [a, b, c, d, e, f, g, i], _ => exact ⟨a, b, c, d, e, f, g, i, rfl⟩
section
variable {H : Type} {enc : TypeId × Value → H} {P : Program} {w : World} {base : Nat} {held : Bool}
/-- a slice of elements of one cell -/
theorem trod_rowV {α : Type} {f : α → Value} {Q : α → Prop} {t e : TypeId} {fuel : Nat} {v : Value} {x : DataW H × List MemPlace} (ht : P.underlying t = some (.slice e)) (hc : P.cellsOf e = 1)
    (hel : ∀ (m : Nat) (u : Value) (y : DataW H × List MemPlace), DataW.trod enc P w base (fun _ => true) held m e [u] = some y → ∃ a, u = f a ∧ Q a)
    (h : DataW.trod enc P w base (fun _ => true) held fuel t [v] = some x) : ∃ l : List α, InV f w v l ∧ l.length ≤ maxLen ∧ ∀ a ∈ l, Q a := by
  rcases open_slice1 ht hc h with ⟨hcs, _⟩ | ⟨a, len, cap, m, n, V, D, Pl, hcs, _, hl, hm, hmm, _, hall⟩
  · simp at hcs; subst hcs
    exact ⟨[], InV.nil w, Nat.zero_le _, by simp⟩
  · simp at hcs; subst hcs
    simp only [if_true] at hmm
    have key : ∀ j, j ≤ len → ∃ l : List α, l.length = j ∧ Rd w (some a) (l.map f) ∧ ∀ a ∈ l, Q a := by
      intro j
      induction j with
      | zero => intro _; exact ⟨[], rfl, Rd.nil, by simp⟩
      | succ j ih =>
        intro hj
        obtain ⟨l, h1, h2, h3⟩ := ih (by omega)
        obtain ⟨hc1, hc2⟩ := hall j (by omega)
        obtain ⟨b, hb1, hb2⟩ := hel _ _ _ hc2
        refine ⟨l ++ [b], by simp [h1], ?_, ?_⟩
        · intro i u hu
          rw [List.map_append] at hu
          by_cases hi : i < l.length
          · rw [List.getElem?_append_left (by simpa using hi)] at hu
            exact h2 i u hu
          · rw [List.getElem?_append_right (by simpa using hi)] at hu
            have h0 : i - (l.map f).length = 0 := by
              have := (List.getElem?_eq_some_iff.1 hu).1
              simpa using this
            rw [h0] at hu
            simp at hu
            subst hu
            have : i = j := by simp at h0; omega
            subst this
            exact ⟨a, rfl, by rw [hc1, hb1]⟩
        · intro y hy
          rcases List.mem_append.1 hy with hy | hy
          · exact h3 y hy
          · simp only [List.mem_singleton] at hy
            subst hy
            exact hb2
    obtain ⟨l, h1, h2, h3⟩ := key len (Nat.le_refl _)
    exact ⟨l, ⟨some a, cap, by rw [h1], by omega, h2⟩, by omega, h3⟩
end
section
variable {H : Type} {enc : TypeId × Value → H} {w : World} {base : Nat} {held : Bool}
theorem trod_queue {fuel : Nat} {v : Value} {x : DataW H × List MemPlace} (h : DataW.trod enc Try.prog w base (fun _ => true) held fuel 43 [v] = some x) : ∃ q : List (List UInt8), QIn w v q ∧ q.length ≤ maxLen := by
  obtain ⟨zs, h1, h2, h3⟩ := trod_rowV (f := bodyV) (Q := fun z => InB w (bodyV z) z.b) Try.underlying43 (by kernel_rfl) (fun m u y h => by
    obtain ⟨l, hi, _⟩ := trod_bytes Try.underlying32 Try.underlying5 (by kernel_rfl) h
    obtain ⟨z, hz1, hz2⟩ := hi.body
    exact ⟨z, hz2.symm, by rw [hz2, hz1]; exact hi⟩) h
  exact ⟨zs.map Body.b, ⟨zs, rfl, h1, h3⟩, by simpa using h2⟩
set_option maxRecDepth 100000 in
theorem open_endpoint {r : Reach} {b0 : Nat} {v : Value} {d : DataW H} {p : List MemPlace} (hv : Value.okWide Try.prog w r b0 45 v) (h : DataW.Trod enc Try.prog w base (fun _ => true) held 45 v d p) :
    ∃ e : EP, EPAt w v e ∧ e.queue.length ≤ 9223372036854775807 ∧ (∀ n, n ∈ [e.epoch, e.peer, e.acked, e.sent, e.got, e.timer] → -9223372036854775808 ≤ n ∧ n ≤ 9223372036854775807) := by
  obtain ⟨cs, rfl, hl, n, hf⟩ := open_fields Try.underlying45 (by kernel_rfl) (by kernel_rfl) hv h
  obtain ⟨c0, c1, c2, c3, c4, c5, c6, c7, rfl⟩ := list8 (by simpa using hl)
  obtain ⟨u0, y0, e0, t0⟩ := hf 0 _ rfl
  obtain ⟨u1, y1, e1, t1⟩ := hf 1 _ rfl
  obtain ⟨u2, y2, e2, t2⟩ := hf 2 _ rfl
  obtain ⟨u3, y3, e3, t3⟩ := hf 3 _ rfl
  obtain ⟨u4, y4, e4, t4⟩ := hf 4 _ rfl
  obtain ⟨u5, y5, e5, t5⟩ := hf 5 _ rfl
  obtain ⟨u6, y6, e6, t6⟩ := hf 6 _ rfl
  obtain ⟨u7, y7, e7, t7⟩ := hf 7 _ rfl
  simp only [List.getElem?_cons_zero, List.getElem?_cons_succ, Option.some.injEq] at e0 e1 e2 e3 e4 e5 e6 e7
  subst e0 e1 e2 e3 e4 e5 e6 e7
  obtain ⟨k0, e0, _, w0⟩ := DataW.trod_int Try.underlying3 t0
  obtain ⟨k1, e1, _, w1⟩ := DataW.trod_int Try.underlying3 t1
  obtain ⟨k2, e2, _, w2⟩ := DataW.trod_int Try.underlying3 t2
  obtain ⟨k3, e3, _, w3⟩ := DataW.trod_int Try.underlying3 t3
  obtain ⟨k4, e4, _, w4⟩ := DataW.trod_int Try.underlying3 t4
  obtain ⟨k5, e5, _, w5⟩ := DataW.trod_int Try.underlying3 t5
  obtain ⟨q6, i6, m6⟩ := trod_queue t6
  obtain ⟨k7, e7, _⟩ := DataW.trod_bool Try.underlying4 t7
  injection e0 with e0
  injection e1 with e1
  injection e2 with e2
  injection e3 with e3
  injection e4 with e4
  injection e5 with e5
  injection e7 with e7
  subst e0 e1 e2 e3 e4 e5 e7
  refine ⟨⟨k0, k1, k2, k3, k4, k5, q6, k7⟩, ⟨_, rfl, i6⟩, by simpa [maxLen] using m6, ?_⟩
  intro n hn
  simp only [List.mem_cons, List.not_mem_nil, or_false] at hn
  rcases hn with rfl | rfl | rfl | rfl | rfl | rfl
  · exact wf_i64 w0
  · exact wf_i64 w1
  · exact wf_i64 w2
  · exact wf_i64 w3
  · exact wf_i64 w4
  · exact wf_i64 w5
end
end Go.Proofs.Ytpngmnfjefplkaa
