/- Where the reading of a line table stands in memory. No walk here. -/
import Derived.Test.YtokmbdeafjmcjaaLinI
namespace Go.Proofs.Ytokmbdeafjmcjaa
open Go.RowKit
set_option linter.unusedVariables false

theorem rw_info : (Try.prog.info? 53).map (fun i => (i.zero, i.size, i.bytes)) = some (some (.agg #[.int .i64 0, .int .i64 0, .int .i64 0, .bool false]), 4, 32) := by kernel_rfl
theorem elem_rw : ElemN Try.prog 44 53 4 32 := by
  rcases hi : Try.prog.info? 53 with _ | i
  · have := rw_info; rw [hi] at this; cases this
  · have := rw_info
    rw [hi] at this
    simp only [Option.map_some, Option.some.injEq, Prod.mk.injEq] at this
    exact ⟨Try.underlying44, by omega, i, _, hi, this.1, this.2.1, this.2.2, rfl⟩
structure TS (w : World) (gr g2 g4 g6 : Nat) (x : Value) (pos lo hi : Int) (y : Value) (rows : List LRow) (s : LRow) (W : World) : Prop where
  rd : W.heap[gr]? = some (.cells #[x, .int .i64 pos] 100 (0, 0))
  res : W.heap[g2]? = some (.cells #[.int .i64 0, .int .i64 0, .slice none 0 0] 46 (0, 0))
  tab : W.heap[g4]? = some (.cells #[.int .i64 lo, .int .i64 hi, y] 46 (0, 0))
  st : W.heap[g6]? = some (.cells #[.int .i64 s.addr, .int .i64 s.ctx, .int .i64 s.stmt, .bool s.mark] 53 (0, 0))
  own : OwnR lrowCells 4 53 w.heap.size W y rows
  ny : y.ownBlock ≠ some g6
  kept : Kept w.heap.size [gr] w W
  ne : g2 ≠ g4
  low : w.heap.size ≤ g2 ∧ w.heap.size ≤ g4 ∧ w.heap.size ≤ g6
section
variable {w W W' : World} {gr g2 g4 g6 : Nat} {x y : Value} {pos pos' lo hi : Int} {rows : List LRow} {s s' : LRow}
theorem TS.ext (h : TS w gr g2 g4 g6 x pos lo hi y rows s W) (he : Ext W W') : TS w gr g2 g4 g6 x pos lo hi y rows s W' :=
  ⟨he.heap h.rd, he.heap h.res, he.heap h.tab, he.heap h.st, h.own.ext he, h.ny, h.kept.trans (Kept.of_ext he h.kept.size), h.ne, h.low⟩
theorem TS.at_ (h : TS w gr g2 g4 g6 x pos lo hi y rows s W) (p : Int) : TS w gr g2 g4 g6 x p lo hi y rows s (W.setCell ⟨gr, 1, none⟩ (.int .i64 p)) := by
  have g := gset W ⟨gr, 1, none⟩ (.int .i64 p)
  exact ⟨blk_set h.rd 1 _, blk_grown h.res g (fun e => ne_of_types h.res h.rd (by decide) (by cases e; rfl)), blk_grown h.tab g (fun e => ne_of_types h.tab h.rd (by decide) (by cases e; rfl)), blk_grown h.st g (fun e => ne_of_types h.st h.rd (by decide) (by cases e; rfl)),
    h.own.kept g (.inr (h.own.ne_blk h.rd (by decide))), h.ny, h.kept.trans (Kept.of_grown g h.kept.size (fun k e => by cases e; exact .inr (by simp))), h.ne, h.low⟩
theorem Kept.heapR {α : Type} {f : α → List Value} {k : Nat} {e : TypeId} {b0 base : Nat} {xs : List Nat} {w W : World} {v : Value} {l : List α} (h : Kept w.heap.size xs w W) (ho : OwnR f k e b0 w v l) (hx : ∀ i ∈ xs, v.ownBlock ≠ some i) : OwnR f k e b0 W v l :=
  h.ownR ho (fun i hi => ⟨ho.lt i hi, fun hm => hx i hm hi⟩)
theorem TS.change (h : TS w gr g2 g4 g6 x pos lo hi y rows s W) {en : Ending} (hc : ChPost gr g6 x pos' s' W en W') : TS w gr g2 g4 g6 x pos' lo hi y rows s' W' := by
  obtain ⟨_, c1, c2, c3⟩ := hc
  have n2r := ne_of_types h.res h.rd (by decide)
  have n4r := ne_of_types h.tab h.rd (by decide)
  have n26 := ne_of_types h.res h.st (by decide)
  have n46 := ne_of_types h.tab h.st (by decide)
  refine ⟨c1, c3.heap h.res (heap_lt h.res) (by simp; exact ⟨n2r, n26⟩), c3.heap h.tab (heap_lt h.tab) (by simp; exact ⟨n4r, n46⟩), c2, c3.heapR (base := 0) h.own (fun i hi => ?_), h.ny, ?_, h.ne, h.low⟩
  · simp only [List.mem_cons, List.not_mem_nil, or_false] at hi
    rcases hi with rfl | rfl
    · exact h.own.ne_blk h.rd (by decide)
    · exact h.ny
  · refine h.kept.trans ⟨c3.os, c3.tape, c3.output, c3.size, fun i hi hx => c3.block i (Nat.lt_of_lt_of_le hi h.kept.size) ?_⟩
    have := h.low.2.2
    simp only [List.mem_cons, List.not_mem_nil, or_false] at hx ⊢
    omega
theorem TS.state (h : TS w gr g2 g4 g6 x pos lo hi y rows s W) (j : Nat) (u : Value) (he : (#[.int .i64 s.addr, .int .i64 s.ctx, .int .i64 s.stmt, .bool s.mark] : Array Value).setIfInBounds j u = #[.int .i64 s'.addr, .int .i64 s'.ctx, .int .i64 s'.stmt, .bool s'.mark]) :
    TS w gr g2 g4 g6 x pos lo hi y rows s' (W.setCell ⟨g6, j, none⟩ u) := by
  have g := gset W ⟨g6, j, none⟩ u
  exact ⟨blk_grown h.rd g (fun e => ne_of_types h.rd h.st (by decide) (by cases e; rfl)), blk_grown h.res g (fun e => ne_of_types h.res h.st (by decide) (by cases e; rfl)), blk_grown h.tab g (fun e => ne_of_types h.tab h.st (by decide) (by cases e; rfl)), by rw [blk_set h.st j u, he],
    h.own.kept g (.inr h.ny), h.ny, h.kept.trans (Kept.of_grown g h.kept.size (fun k e => by cases e; exact .inl h.low.2.2)), h.ne, h.low⟩
/-- a row is laid behind the others -/
theorem TS.push {W2 : World} {y' : Value} {rows' : List LRow} (h : TS w gr g2 g4 g6 x pos lo hi y rows s W) (ho : OwnR lrowCells 4 53 w.heap.size W2 y' rows') (hg : Grew W W2 y y') :
    TS w gr g2 g4 g6 x pos lo hi y' rows' s (W2.setCell ⟨g4, 2, none⟩ y') ∧ W2.heap[g4]? = some (.cells #[.int .i64 lo, .int .i64 hi, y] 46 (0, 0)) := by
  have n1 := h.own.ne_blk h.rd (by decide)
  have n2 := h.own.ne_blk h.res (by decide)
  have n4 := h.own.ne_blk h.tab (by decide)
  have r1 := blk_grown h.rd hg.grown (fun e => n1 e.symm)
  have r2 := blk_grown h.res hg.grown (fun e => n2 e.symm)
  have r4 := blk_grown h.tab hg.grown (fun e => n4 e.symm)
  have r6 := blk_grown h.st hg.grown (fun e => h.ny e.symm)
  have g := gset W2 ⟨g4, 2, none⟩ y'
  refine ⟨⟨blk_grown r1 g (fun e => ne_of_types r1 r4 (by decide) (by cases e; rfl)), blk_grown r2 g (fun e => h.ne (by cases e; rfl)), blk_set r4 2 y', blk_grown r6 g (fun e => ne_of_types r6 r4 (by decide) (by cases e; rfl)), ho.kept g (.inr (ho.ne_blk r4 (by decide))), fun e => ?_, ?_, h.ne, h.low⟩, r4⟩
  · rcases hg.lies with e2 | ⟨k, e2, hk⟩
    · exact h.ny (e2 ▸ e)
    · rw [e2] at e
      injection e with e
      have := heap_lt h.st
      omega
  · exact (h.kept.trans (Kept.of_grown hg.grown h.kept.size (fun k e => .inl (h.own.ge k e)))).trans (Kept.of_grown g (Nat.le_trans h.kept.size hg.grown.size) (fun k e => by cases e; exact .inl h.low.2.1))
end
end Go.Proofs.Ytokmbdeafjmcjaa
