/- Rows of the call's own over any one-cell element type. No statement about the program. -/
import Derived.Test.YtopanbcodfkedaaBase
namespace Go.Proofs.Ytopanbcodfkedaa
open Go.RowKit
set_option linter.unusedVariables false

/-- the walk stops here -/
def Hold (p : Prop) : Prop := p
theorem Hold.out {p : Prop} (h : Hold p) : p := h
theorem Hold.mk {p : Prop} (h : p) : Hold p := h

/-- what an append asks of an element type of one cell -/
structure Elem1 (P : Program) (t e : TypeId) (bytes : Nat) : Prop where
  slice : P.underlying t = some (.slice e)
  info : ∃ i z, P.info? e = some i ∧ i.zero = some z ∧ i.size = 1 ∧ i.bytes = bytes ∧ z.cells.size = 1

/-- a row of the call's own that reads as this list -/
def OwnV {α : Type} (f : α → Value) (e : TypeId) (base : Nat) (w : World) (v : Value) (l : List α) : Prop := w.ownsRow base e 1 v l.length (l.map f)
section
variable {α : Type} {f : α → Value} {e : TypeId} {base : Nat} {w w' : World} {v : Value} {l : List α}
theorem OwnV.nil (w : World) : OwnV f e base w (.slice none 0 0) [] := World.ownsRow_nil w base e 1
theorem OwnV.inV (h : OwnV f e base w v l) : InV f w v l := by
  rcases h.2 with ⟨rfl, h0⟩ | ⟨g, cap, cur, rfl, r⟩
  · have h' : w.ownsRow base e 1 (.slice none 0 0) l.length (l.map f) := h
    rw [h0] at h'
    exact ⟨none, 0, by rw [h0], by omega, Rd.own h'⟩
  · exact ⟨_, cap, rfl, r.2.2.1, Rd.own (c := cap) h⟩
theorem OwnV.ge (h : OwnV f e base w v l) : ∀ k, v.ownBlock = some k → base ≤ k := fun k hk => (World.ownsRow.lt h k hk).1
theorem OwnV.lt (h : OwnV f e base w v l) : ∀ k, v.ownBlock = some k → k < w.heap.size := fun k hk => (World.ownsRow.lt h k hk).2
theorem OwnV.ext (h : OwnV f e base w v l) (he : Ext w w') : OwnV f e base w' v l := he.ownsRow h
theorem OwnV.kept {row : Option Nat} (h : OwnV f e base w v l) (hg : w.grownBy w' row) (hne : v.ownBlock = none ∨ v.ownBlock ≠ row) : OwnV f e base w' v l := World.ownsRow.kept h hg hne
theorem OwnV.low {base' : Nat} (h : OwnV f e base w v l) (hb : base' ≤ base) : OwnV f e base' w v l :=
  ⟨h.1, h.2.imp id fun ⟨g, cap, cur, hv, hg, r⟩ => ⟨g, cap, cur, hv, Nat.le_trans hb hg, r⟩⟩
/-- where it lies, if it is not empty -/
theorem OwnV.form (h : OwnV f e base w v l) (h0 : 0 < l.length) : ∃ g cap, v = .slice (some ⟨g, 0, none⟩) l.length cap ∧ base ≤ g ∧ g < w.heap.size := by
  rcases h.2 with ⟨rfl, hn⟩ | ⟨g, cap, cur, rfl, hb, hg, _⟩
  · omega
  · refine ⟨g, cap, rfl, hb, ?_⟩
    rcases Nat.lt_or_ge g w.heap.size with h | h
    · exact h
    · rw [Array.getElem?_eq_none h] at hg; cases hg
theorem OwnV.put {g n cap : Nat} (h : OwnV f e base w (.slice (some ⟨g, 0, none⟩) n cap) l) (hn : n = l.length) (j : Nat) (u : α) :
    OwnV f e base (w.setCell ⟨g, j, none⟩ (f u)) (.slice (some ⟨g, 0, none⟩) n cap) (l.set j u) ∧ w.grownBy (w.setCell ⟨g, j, none⟩ (f u)) (some g) := by
  subst hn
  have h' : w.ownsRow base e 1 (.slice (some ⟨g, 0, none⟩) l.length cap) l.length (l.map f) := h
  obtain ⟨h1, h2⟩ := World.ownsRow.stored h' j (f u)
  refine ⟨?_, h2⟩
  unfold OwnV
  rw [List.length_set, List.map_set]
  exact h1
theorem OwnV.at_ {g n cap : Nat} (h : OwnV f e base w (.slice (some ⟨g, 0, none⟩) n cap) l) (hn : n = l.length) (j : Nat) (hj : j < l.length) :
    w.cell? ⟨g, j, none⟩ = some (f l[j]) ∧ w.frozen? ⟨g, j, none⟩ = false := by
  subst hn
  have h' : w.ownsRow base e 1 (.slice (some ⟨g, 0, none⟩) l.length cap) l.length (l.map f) := h
  refine ⟨?_, World.ownsRow.frozenAt h' j⟩
  rw [World.ownsRow.cellAt h' j (by omega), List.getElem?_map, List.getElem?_eq_getElem hj]
  rfl
/-- rows of different element types lie in different blocks -/
theorem OwnV.ne {β : Type} {f' : β → Value} {e' : TypeId} {base' : Nat} {v' : Value} {l' : List β} (h : OwnV f e base w v l) (h' : OwnV f' e' base' w v' l') (hne : e ≠ e') : v.ownBlock = none ∨ v.ownBlock ≠ v'.ownBlock := by
  rcases h.2 with ⟨rfl, _⟩ | ⟨g, cap, cur, rfl, _, hg, _⟩
  · exact .inl rfl
  · rcases h'.2 with ⟨rfl, _⟩ | ⟨g', cap', cur', rfl, _, hg', _⟩
    · exact .inr (by simp [Value.ownBlock])
    · refine .inr fun ee => ?_
      have : g = g' := by simpa [Value.ownBlock] using ee
      subst this
      rw [hg] at hg'
      injection hg' with hg'
      injection hg' with _ he
      exact hne he
theorem OwnV.ne_blk (h : OwnV f e base w v l) {g : Nat} {cs : Array Value} {t : TypeId} {fr : Nat × Nat} (hb : w.heap[g]? = some (.cells cs t fr)) (hne : e ≠ t) : v.ownBlock ≠ some g := fun ee => by
  rcases h.2 with ⟨rfl, _⟩ | ⟨g', cap, cur, rfl, _, hg, _⟩
  · cases ee
  · have : g' = g := by simpa [Value.ownBlock] using ee
    subst this
    rw [hb] at hg
    injection hg with hg
    injection hg with _ he
    exact hne he.symm
theorem OwnV.set_far (h : OwnV f e base w v l) {p : Addr} (hp : v.ownBlock ≠ some p.block) (u : Value) : OwnV f e base (w.setCell p u) v l :=
  h.kept (row := some p.block) ⟨rfl, rfl, rfl, by simp [World.setCell], fun k _ hk => Below.heap_setCell _ _ _ _ (fun e => hk (by rw [e]))⟩ (.inr hp)
end

theorem wpList_appendV {α : Type} {f : α → Value} {P : Program} {t e : TypeId} {bytes : Nat} (he : Elem1 P t e bytes) (h1 : ∀ a, (f a).oneCell' = true) {w : World} {ops : Array Oper} {rest : List Oper} {o : Oper} {a : Act} {Q : Exit → Act → World → Prop} (hgd : o.guard = none) (s x : Operand)
    (ho : o.op = .call { callee := .builtin .append, args := #[s, x], argTypes := #[t, t] })
    (base : Nat) (v : Value) (l : List α) (hs : a.eval s = v) (hown : OwnV f e base w v l)
    (y : Value) (m : List α) (hx : a.eval x = y) (hr : InV f w y m)
    (h63 : l.length + m.length ≤ 1073741824) (hb : bytes ≤ 4096) (hbase : base ≤ w.heap.size)
    (h : ∀ v' w', OwnV f e base w' v' (l ++ m) → Grew w w' v v' → wpList P ops Q rest (a.put o.dst v') w') : wpList P ops Q (o :: rest) a w := by
  obtain ⟨i0, z, hi, hz0, hz1, hz2, hzc⟩ := he.info
  obtain ⟨A, c, rfl, _, hr⟩ := hr
  exact wpList_append_rd hgd s x _ ho base _ i0 _ 1 bytes he.slice hi hz0 hz1 hz2 hzc (by omega) v l.length _ hs hown A m.length c (m.map f) hx (by simp) hr (fun u hu => by
      obtain ⟨b, _, rfl⟩ := List.mem_map.1 hu
      exact h1 b)
    (by simp only [maxLen]; omega) (by
      have : (l.length + m.length) * bytes ≤ 1073741824 * 4096 := Nat.mul_le_mul h63 hb
      omega) hbase fun v' w' h2 h3 h4 => h v' w' (by unfold OwnV; simpa using h2) (Grew.of_append h3 h4)

theorem blk_at {w : World} {g : Nat} {cs : Array Value} {t : TypeId} (h : w.heap[g]? = some (.cells cs t (0, 0))) (j : Nat) (v : Value) (hv : cs[j]? = some v) : w.cell? ⟨g, j, none⟩ = some v := by
  simp [World.cell?, h, hv]
theorem blk_free {w : World} {g : Nat} {cs : Array Value} {t : TypeId} (h : w.heap[g]? = some (.cells cs t (0, 0))) (j : Nat) : w.frozen? ⟨g, j, none⟩ = false := by
  simp [World.frozen?, h]
theorem blk4 {w : World} {g : Nat} {a b c d : Value} {t : TypeId} (h : w.heap[g]? = some (.cells #[a, b, c, d] t (0, 0))) :
    w.cell? ⟨g, 0, none⟩ = some a ∧ w.cell? ⟨g, 1, none⟩ = some b ∧ w.cell? ⟨g, 2, none⟩ = some c ∧ w.cell? ⟨g, 3, none⟩ = some d ∧
    w.frozen? ⟨g, 0, none⟩ = false ∧ w.frozen? ⟨g, 1, none⟩ = false ∧ w.frozen? ⟨g, 2, none⟩ = false ∧ w.frozen? ⟨g, 3, none⟩ = false :=
  ⟨blk_at h 0 a rfl, blk_at h 1 b rfl, blk_at h 2 c rfl, blk_at h 3 d rfl, blk_free h 0, blk_free h 1, blk_free h 2, blk_free h 3⟩
theorem blk_set {w : World} {g : Nat} {cs : Array Value} {t : TypeId} (h : w.heap[g]? = some (.cells cs t (0, 0))) (j : Nat) (u : Value) : (w.setCell ⟨g, j, none⟩ u).heap[g]? = some (.cells (cs.setIfInBounds j u) t (0, 0)) := by
  simp [World.setCell, Array.getElem?_modify, h]
theorem blk_far {w : World} {g : Nat} {o : Obj} (h : w.heap[g]? = some o) {p : Addr} (hp : g ≠ p.block) (u : Value) : (w.setCell p u).heap[g]? = some o := (Below.heap_setCell w p u g hp).trans h
theorem blk_alloc {w : World} {g : Nat} {o : Obj} (h : w.heap[g]? = some o) (x : Obj) : (w.alloc x).heap[g]? = some o := ((Ext.refl w).alloc x).heap h
theorem blk_grown {w w' : World} {g : Nat} {o : Obj} {row : Option Nat} (h : w.heap[g]? = some o) (hg : w.grownBy w' row) (hne : some g ≠ row) : w'.heap[g]? = some o := by
  have hlt : g < w.heap.size := by
    rcases Nat.lt_or_ge g w.heap.size with h' | h'
    · exact h'
    · rw [Array.getElem?_eq_none h'] at h; cases h
  exact (hg.block g hlt hne).trans h
end Go.Proofs.Ytopanbcodfkedaa
