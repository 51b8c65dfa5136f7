/- The contract of near of the statements about packets, and of the reference's Same. -/
import Derived.Test.YtnobepobalpccaaPacketE
import Derived.Test.YtnobepobalpccaaKit
import Derived.StillTailTactics
namespace Go.Proofs.Ytnobepobalpccaa
open Go.RowKit
set_option linter.unusedVariables false

theorem Mod_still (n k : Int) (w : World) (hk : 0 < k) (hk2 : k ≤ 4611686018427387904) :
    Calls Try.prog 8 #[.int .i64 n, .int .i64 k] w fun e w' => e = .returned (.int .i64 (n % k)) ∧ w' = w :=
  (Mod_any n k w hk hk2).mono fun _ _ h => ⟨h.1, h.2.symm⟩

/-- the box of the packet and that of the result -/
structure NB (w W : World) (k s d q a : Int) (y : Value) : Prop where
  box : W.heap[w.heap.size]? = some (.cells #[.int .i64 k, .int .i64 s, .int .i64 d, .int .i64 q, .int .i64 a, y] 56 (0, 0))
  res : W.heap[w.heap.size + 1]? = some (.cells #[.int .i64 0, .int .i64 0, .int .i64 0, .int .i64 0, .int .i64 0, .slice none 0 0] 56 (0, 0))
  ext : Ext w W
theorem blk6f {w : World} {g : Nat} {a b c d e f : Value} {t : TypeId} (H : w.heap[g]? = some (.cells #[a, b, c, d, e, f] t (0, 0))) :
    w.frozen? ⟨g, 0, none⟩ = false ∧ w.frozen? ⟨g, 1, none⟩ = false ∧ w.frozen? ⟨g, 2, none⟩ = false ∧ w.frozen? ⟨g, 3, none⟩ = false ∧ w.frozen? ⟨g, 4, none⟩ = false ∧ w.frozen? ⟨g, 5, none⟩ = false :=
  ⟨blk_free H 0, blk_free H 1, blk_free H 2, blk_free H 3, blk_free H 4, blk_free H 5⟩
theorem NB.drew {w W : World} {k s d q a : Int} {y : Value} (h : NB w W k s d q a y) : NB w W.drew k s d q a y := ⟨h.box, h.res, h.ext.drew⟩
theorem NB.alloc {w W : World} {k s d q a : Int} {y : Value} (h : NB w W k s d q a y) (o : Obj) : NB w (W.alloc o) k s d q a y := ⟨blk_alloc h.box o, blk_alloc h.res o, h.ext.alloc o⟩
section
variable {w W : World} {k s d q a : Int} {y : Value}
theorem NB.far (h : NB w W k s d q a y) (j : Nat) (u : Value) : (W.setCell ⟨w.heap.size, j, none⟩ u).heap[w.heap.size + 1]? = some (.cells #[.int .i64 0, .int .i64 0, .int .i64 0, .int .i64 0, .int .i64 0, .slice none 0 0] 56 (0, 0)) ∧ Ext w (W.setCell ⟨w.heap.size, j, none⟩ u) :=
  ⟨blk_far h.res (by show w.heap.size + 1 ≠ w.heap.size; omega) u, h.ext.setCell (Nat.le_refl _) u⟩
theorem NB.set0 (h : NB w W k s d q a y) (x : Int) : NB w (W.setCell ⟨w.heap.size, 0, none⟩ (.int .i64 x)) x s d q a y := ⟨by simpa using blk_set h.box 0 (.int .i64 x), (h.far 0 _).1, (h.far 0 _).2⟩
theorem NB.set1 (h : NB w W k s d q a y) (x : Int) : NB w (W.setCell ⟨w.heap.size, 1, none⟩ (.int .i64 x)) k x d q a y := ⟨by simpa using blk_set h.box 1 (.int .i64 x), (h.far 1 _).1, (h.far 1 _).2⟩
theorem NB.set2 (h : NB w W k s d q a y) (x : Int) : NB w (W.setCell ⟨w.heap.size, 2, none⟩ (.int .i64 x)) k s x q a y := ⟨by simpa using blk_set h.box 2 (.int .i64 x), (h.far 2 _).1, (h.far 2 _).2⟩
theorem NB.set3 (h : NB w W k s d q a y) (x : Int) : NB w (W.setCell ⟨w.heap.size, 3, none⟩ (.int .i64 x)) k s d x a y := ⟨by simpa using blk_set h.box 3 (.int .i64 x), (h.far 3 _).1, (h.far 3 _).2⟩
theorem NB.set4 (h : NB w W k s d q a y) (x : Int) : NB w (W.setCell ⟨w.heap.size, 4, none⟩ (.int .i64 x)) k s d q x y := ⟨by simpa using blk_set h.box 4 (.int .i64 x), (h.far 4 _).1, (h.far 4 _).2⟩
theorem NB.set5 (h : NB w W k s d q a y) (x : Value) : NB w (W.setCell ⟨w.heap.size, 5, none⟩ x) k s d q a x := ⟨by simpa using blk_set h.box 5 x, (h.far 5 _).1, (h.far 5 _).2⟩
end

/-- a packet that is mostly right -/
def p1P (p : Pkt) : Pkt := if 1 + p.kind % 3 = 2 then ⟨1 + p.kind % 3, 1 + p.src % 1073741824, p.dst % 1073741824, 1 + p.seq % 1073741824, p.ack % 1073741824, p.body⟩ else ⟨1 + p.kind % 3, 1 + p.src % 1073741824, p.dst % 1073741824, 0, p.ack % 1073741824, []⟩
def swP (p : Pkt) (which : Int) : Pkt := if which % 12 = 0 then { p with seq := 0 } else if which % 12 = 1 then { p with src := 0 } else if which % 12 = 2 then { p with dst := 1073741825 } else if which % 12 = 3 then { p with body := [1] } else p
def nearP (p : Pkt) (which : Int) : Pkt := swP (p1P p) which

theorem OwnV_new' {α : Type} {f : α → Value} (w : World) (n : Nat) (hn : w.heap.size = n) (x : α) (e : TypeId) : OwnV f e w.heap.size (w.alloc (.cells #[f x] e)) (.slice (some ⟨n, 0, none⟩) 1 1) [x] := by
  subst hn; exact OwnV_new w x e
def PktPost (p : Pkt) (w : World) (e : Ending) (w' : World) : Prop := ∃ v, e = .returned v ∧ PktAt w' v p ∧ Ext w w'
theorem PktPost.mk {p : Pkt} {w w' : World} {v : Value} (he : Ext w w') (h : Ext w w' → PktAt w' v p) : PktPost p w (.returned v) w' := ⟨v, rfl, h he, he⟩

/-- the body of what is handed back is old, unless a new one was asked for -/
theorem agg_body {w0 : World} {a b c d e y : Value} {p : Pkt} (h : PktAt w0 (.agg #[a, b, c, d, e, y]) p) : InB w0 y p.body := by
  obtain ⟨y0, e0, hi⟩ := h
  simp only [Value.agg.injEq, Array.mk.injEq, List.cons.injEq] at e0
  rw [e0.2.2.2.2.2.1]
  exact hi
def NearPost (v0 : Value) (p : Pkt) (which : Int) (w : World) (e : Ending) (w' : World) : Prop := ∃ v, e = .returned v ∧ PktAt w' v (nearP p which) ∧ (which % 12 ≠ 3 → ∀ w0, PktAt w0 v0 p → PktAt w0 v (nearP p which)) ∧ Ext w w'
theorem NearPost.mk {v0 : Value} {p : Pkt} {which : Int} {w w' : World} {v : Value} (he : Ext w w') (h : Ext w w' → PktAt w' v (nearP p which) ∧ (which % 12 ≠ 3 → ∀ w0, PktAt w0 v0 p → PktAt w0 v (nearP p which))) : NearPost v0 p which w (.returned v) w' := ⟨v, rfl, (h he).1, (h he).2, he⟩

end Go.Proofs.Ytnobepobalpccaa
