/- Blocks and rows of structs in general; facts that hold while given blocks are written. No statement about the program. -/
import Derived.Test.YtopanbcodfkedaaRegion5
import Derived.Test.YtopanbcodfkedaaWireE
import Derived.Test.YtopanbcodfkedaaKit
import Derived.Deep.DeepCutAuto
import Derived.Outline
import Derived.Deep.WholeRow
import Derived.Deep.MidRow
import Derived.Deep.CutBlock
import Derived.Great.BuildSlice
import Derived.Laws.IdiomCopy
import Derived.Lib.SlBuf
import Derived.StillTailTactics
import Derived.BigQuiet
namespace Go.Proofs.Ytopanbcodfkedaa
open Go.RowKit
set_option linter.unusedVariables false
theorem int_info : (Try.prog.info? 3).map (fun i => (i.zero, i.size, i.bytes)) = some (some (.int .i64 0), 1, 8) := by kernel_rfl
theorem Ext.grew {w w' : World} (h : Ext w w') (v : Value) : Grew w w' v v :=
  ⟨⟨h.os, h.tape, h.output, h.size, fun i hi _ => h.block i hi⟩, .inl rfl⟩
theorem gnew {a b c : World} {row row' : Option Nat} (h : a.grownBy b row) (k : b.grownBy c row') (hr : ∀ k, row' = some k → a.heap.size ≤ k) : a.grownBy c row := by
  have hs := h.size
  exact ⟨k.os.trans h.os, k.tape.trans h.tape, k.output.trans h.output, Nat.le_trans hs k.size, fun i hi hne => (k.block i (by omega) (fun e => by have := hr i e.symm; omega)).trans (h.block i hi hne)⟩
theorem gset (w : World) (p : Addr) (u : Value) : w.grownBy (w.setCell p u) (some p.block) :=
  ⟨rfl, rfl, rfl, by simp [World.setCell], fun k _ hk => Below.heap_setCell _ _ _ _ (fun e => hk (by rw [e]))⟩

theorem gset2 {a b : World} {g : Nat} (h : a.grownBy b (some g)) (j : Nat) (u : Value) : a.grownBy (b.setCell ⟨g, j, none⟩ u) (some g) := gtrans h (gset b ⟨g, j, none⟩ u)
theorem OwnV_newN {α : Type} {f : α → Value} (w : World) (l : List α) (n : Nat) (hn : n = l.length) (hm : n ≤ 1000000) (C : Array Value) (hC : C.toList = l.map f) (e : TypeId) : OwnV f e w.heap.size (w.alloc (.cells C e)) (.slice (some ⟨w.heap.size, 0, none⟩) n n) l := by
  subst hn
  have hs : C.size = l.length := by rw [← Array.length_toList, hC]; simp
  exact ⟨by simp, .inr ⟨w.heap.size, l.length, C, rfl, Nat.le_refl _, heap_alloc_new w _, Nat.le_refl _, by simp only [maxLen]; omega, by omega, by rw [hC, Nat.mul_one]; exact List.take_of_length_le (by simp)⟩⟩
section
variable {P : Program}
theorem gsetRow (w : World) (g : Nat) (cs : Array Value) : w.grownBy (w.setRow g cs) (some g) :=
  ⟨rfl, rfl, rfl, by simp [World.setRow], fun k _ hk => setRow_other w g k cs (fun e => hk (by rw [e]))⟩
theorem run_storeAt_blk (w : World) (g : Nat) (t ty : TypeId) (old cells : Array Value) (hg : w.heap[g]? = some (.cells old t (0, 0))) (hi : (P.info? ty).map (·.size) = some cells.size)
    (ho : old.size = cells.size) (h1 : cells.all (·.oneCell') = true) : (Instr.storeAt ty (.pointer (some ⟨g, 0, none⟩)) (.agg cells)).run P w = .ok () (w.setRow g cells) := by
  simp only [Instr.storeAt, Instr.sureAddr, Sem.run_bind, Sem.run_pure, Result.andThen]
  exact run_storeVar_row w g t ty old cells hg hi ho h1
theorem run_loadAt_blk (w : World) (g : Nat) (t ty : TypeId) (cs : Array Value) (fr : Nat × Nat) (d : TypeDesc) (hg : w.heap[g]? = some (.cells cs t fr))
    (hu : P.underlying ty = some d) (hd : (match d with | .struct _ | .array _ _ => true | _ => false) = true) (hi : (P.info? ty).map (·.size) = some cs.size) :
    (Instr.loadAt ty (.pointer (some ⟨g, 0, none⟩))).run P w = .ok (.agg cs) w := by
  simp only [Instr.loadAt, Instr.sureAddr, Sem.run_bind, Sem.run_pure, Result.andThen]
  exact run_loadVar_row w g t ty cs fr d hg hu hd hi
theorem wpList_run {ops : Array Oper} {rest : List Oper} {op : Oper} {a : Act} {w w' : World} {Q : Exit → Act → World → Prop} (hgd : op.guard = none) (v : Value)
    (hr : (execOp a.eval op).run P w = .ok (.value v) w') (h : wpList P ops Q rest (a.put op.dst v) w') : wpList P ops Q (op :: rest) a w :=
  wpList_plain hgd fun _ hK => by
    unfold Oper.wp
    simp only [hr, Oper.upon]
    exact hK _ _ h
end
theorem heap_lt {w : World} {g : Nat} {o : Obj} (h : w.heap[g]? = some o) : g < w.heap.size := by
  rcases Nat.lt_or_ge g w.heap.size with h' | h'
  · exact h'
  · rw [Array.getElem?_eq_none h'] at h; cases h
theorem row_ne {w : World} {base base' : Nat} {e e' : TypeId} {k k' n n' : Nat} {v v' : Value} {xs xs' : List Value} (h : w.ownsRow base e k v n xs) (h' : w.ownsRow base' e' k' v' n' xs') (hne : e ≠ e') : v.ownBlock = none ∨ v.ownBlock ≠ v'.ownBlock := by
  rcases h.2 with ⟨rfl, _⟩ | ⟨g, cap, cur, rfl, _, hg, _⟩
  · exact .inl rfl
  · rcases h'.2 with ⟨rfl, _⟩ | ⟨g', cap', cur', rfl, _, hg', _⟩
    · exact .inr (by simp [Value.ownBlock])
    · refine .inr fun ee => ?_
      have : g = g' := by simpa [Value.ownBlock] using ee
      subst this
      rw [hg] at hg'
      injection hg' with hg'
      injection hg' with _ he
      exact hne he
theorem wpList_load_run {P : Program} {ops : Array Oper} {rest : List Oper} {op : Oper} {a : Act} {w : World} {Q : Exit → Act → World → Prop} (hgd : op.guard = none) (ty : TypeId) (x : Operand) (ho : op.op = .load ty x)
    (v u : Value) (hx : a.eval x = v) (hr : (Instr.loadAt ty v).run P w = .ok u w) (h : wpList P ops Q rest (a.put op.dst u) w) : wpList P ops Q (op :: rest) a w :=
  wpList_plain hgd fun _ hK => by
    unfold Oper.wp execOp
    simp only [ho, hx, Sem.run_bind, hr, Result.andThen_ok, Sem.run_pure]
    exact hK _ _ h
theorem wpList_store_run {P : Program} {ops : Array Oper} {rest : List Oper} {op : Oper} {a : Act} {w : World} {Q : Exit → Act → World → Prop} (hgd : op.guard = none) (ty : TypeId) (x y : Operand) (ho : op.op = .store ty x y)
    (v u : Value) (w' : World) (hx : a.eval x = v) (hy : a.eval y = u) (hr : (Instr.storeAt ty v u).run P w = .ok () w') (h : wpList P ops Q rest (a.put op.dst undef) w') : wpList P ops Q (op :: rest) a w :=
  wpList_plain hgd fun _ hK => by
    unfold Oper.wp execOp
    simp only [ho, hx, hy, Sem.run_bind, hr, Result.andThen_ok, Sem.run_pure]
    exact hK _ _ h
/-- what lies below base is as it was, but for some blocks -/
structure Kept (base : Nat) (xs : List Nat) (w w' : World) : Prop where
  os : w'.os = w.os
  tape : w'.tape = w.tape
  output : w'.output = w.output
  size : w.heap.size ≤ w'.heap.size
  block : ∀ i, i < base → i ∉ xs → w'.heap[i]? = w.heap[i]?
theorem Kept.refl (base : Nat) (xs : List Nat) (w : World) : Kept base xs w w := ⟨rfl, rfl, rfl, Nat.le_refl _, fun _ _ _ => rfl⟩
theorem Kept.trans {base : Nat} {xs : List Nat} {a b c : World} (h : Kept base xs a b) (k : Kept base xs b c) : Kept base xs a c :=
  ⟨k.os.trans h.os, k.tape.trans h.tape, k.output.trans h.output, Nat.le_trans h.size k.size, fun i hi hx => (k.block i hi hx).trans (h.block i hi hx)⟩
theorem Kept.of_ext {base : Nat} {xs : List Nat} {a b : World} (h : Ext a b) (hb : base ≤ a.heap.size) : Kept base xs a b := ⟨h.os, h.tape, h.output, h.size, fun i hi _ => h.block i (Nat.lt_of_lt_of_le hi hb)⟩
theorem Kept.of_grown {base : Nat} {xs : List Nat} {a b : World} {row : Option Nat} (h : a.grownBy b row) (hb : base ≤ a.heap.size) (hr : ∀ k, row = some k → base ≤ k ∨ k ∈ xs) : Kept base xs a b :=
  ⟨h.os, h.tape, h.output, h.size, fun i hi hx => h.block i (Nat.lt_of_lt_of_le hi hb) (fun e => by
    rcases hr i e.symm with h | h
    · omega
    · exact hx h)⟩
theorem Kept.more {base : Nat} {xs ys : List Nat} {a b : World} (h : Kept base xs a b) (hs : ∀ x ∈ xs, x ∈ ys) : Kept base ys a b := ⟨h.os, h.tape, h.output, h.size, fun i hi hx => h.block i hi (fun e => hx (hs i e))⟩
theorem Kept.heap {base : Nat} {xs : List Nat} {a b : World} (h : Kept base xs a b) {g : Nat} {o : Obj} (hc : a.heap[g]? = some o) (hg : g < base) (hx : g ∉ xs) : b.heap[g]? = some o := (h.block g hg hx).trans hc
theorem Kept.ext {base : Nat} {xs : List Nat} {w a b : World} (h : Kept base xs a b) (he : Ext w a) (hb : w.heap.size ≤ base) (hx : ∀ x ∈ xs, w.heap.size ≤ x) : Ext w b :=
  ⟨h.os.trans he.os, h.tape.trans he.tape, h.output.trans he.output, Nat.le_trans he.size h.size, fun i hi => (h.block i (Nat.lt_of_lt_of_le hi hb) (fun e => by have := hx i e; omega)).trans (he.block i hi)⟩
theorem Kept.ownV {α : Type} {f : α → Value} {e : TypeId} {base b0 : Nat} {xs : List Nat} {w W : World} {v : Value} {l : List α} (h : Kept base xs w W) (ho : OwnV f e b0 w v l) (hb : ∀ k, v.ownBlock = some k → k < base ∧ k ∉ xs) : OwnV f e b0 W v l := by
  refine ⟨ho.1, ?_⟩
  rcases ho.2 with h3 | ⟨g, cap, cur, rfl, hg, hh, r⟩
  · exact Or.inl h3
  · obtain ⟨h1, h2⟩ := hb g rfl
    exact Or.inr ⟨g, cap, cur, rfl, hg, h.heap hh h1 h2, r⟩

section
variable {α : Type} {f : α → List Value} {k : Nat}
theorem flat_len : ∀ (l : List α), (∀ a ∈ l, (f a).length = k) → (l.flatMap f).length = l.length * k
  | [], _ => by simp
  | a :: l, h => by
    rw [List.flatMap_cons, List.length_append, flat_len l (fun x hx => h x (by simp [hx])), h a (by simp), List.length_cons, Nat.succ_mul]; omega
theorem flat_get : ∀ (l : List α), (∀ a ∈ l, (f a).length = k) → ∀ (j i : Nat) (hj : j < l.length), i < k → (l.flatMap f)[j * k + i]? = (f l[j])[i]?
  | [], _, j, i, hj, _ => by simp at hj
  | a :: l, h, j, i, hj, hi => by
    have ha := h a (by simp)
    rw [List.flatMap_cons]
    rcases j with _ | j
    · rw [List.getElem?_append_left (by omega)]; simp
    · rw [List.getElem?_append_right (by rw [ha, Nat.succ_mul]; omega), ha, show (j + 1) * k + i - k = j * k + i by rw [Nat.succ_mul]; omega]
      exact flat_get l (fun x hx => h x (by simp [hx])) j i (by simpa using hj) hi
/-- the value is a slice of elements of several cells -/
def InR (f : α → List Value) (w : World) (x : Value) (l : List α) : Prop := ∃ A c, x = .slice A l.length c ∧ l.length ≤ c ∧ Rd w A (l.flatMap f)
theorem InR.ext {w w' : World} {x : Value} {l : List α} (h : InR f w x l) (he : Ext w w') : InR f w' x l := by
  obtain ⟨A, c, rfl, hc, hr⟩ := h
  exact ⟨A, c, rfl, hc, hr.ext he⟩
theorem InR.nil (w : World) : InR f w (.slice none 0 0) [] := ⟨none, 0, rfl, Nat.le_refl _, Rd.nil⟩
theorem InR.at_ {w : World} {A : Option Addr} {n c : Nat} {l : List α} (h : InR f w (.slice A n c) l) (hl : ∀ a ∈ l, (f a).length = k) (h0 : 0 < k) {j : Nat} (hj : j < l.length) :
    ∃ b off, A = some ⟨b, off, none⟩ ∧ w.rangeAt b (off + j * k) (f l[j]) := by
  obtain ⟨A', c', e, _, hr⟩ := h
  cases e
  have hlen := flat_len l hl
  have hjk : j * k + k ≤ l.length * k := by rw [← Nat.succ_mul]; exact Nat.mul_le_mul_right _ hj
  obtain ⟨b, off, rfl, _⟩ := hr.at2 (k := j * k) (by omega)
  refine ⟨b, off, rfl, fun i u hu => ?_⟩
  have hi : i < k := by rw [← hl l[j] (List.getElem_mem hj)]; exact (List.getElem?_eq_some_iff.1 hu).1
  have hg := flat_get l hl j i hj hi
  obtain ⟨b', off', e, hc⟩ := hr.at2 (k := j * k + i) (by omega)
  cases e
  rw [Nat.add_assoc, hc, ← hu, ← hg, List.getElem?_eq_getElem]
/-- a row of the call's own, elements of several cells -/
def OwnR (f : α → List Value) (k : Nat) (e : TypeId) (base : Nat) (w : World) (v : Value) (l : List α) : Prop := w.ownsRow base e k v l.length (l.flatMap f)
variable {e : TypeId} {base : Nat} {w w' : World} {v : Value} {l : List α}
theorem OwnR.nil (w : World) : OwnR f k e base w (.slice none 0 0) [] := World.ownsRow_nil w base e k
theorem OwnR.inR (h : OwnR f k e base w v l) : InR f w v l := by
  rcases h.2 with ⟨rfl, h0⟩ | ⟨g, cap, cur, rfl, r⟩
  · have h' : w.ownsRow base e k (.slice none 0 0) l.length (l.flatMap f) := h
    rw [h0] at h'
    exact ⟨none, 0, by rw [h0], by omega, Rd.own h'⟩
  · exact ⟨_, cap, rfl, r.2.2.1, Rd.own (c := cap) h⟩
theorem OwnR.ge (h : OwnR f k e base w v l) : ∀ x, v.ownBlock = some x → base ≤ x := fun x hx => (World.ownsRow.lt h x hx).1
theorem OwnR.ext (h : OwnR f k e base w v l) (he : Ext w w') : OwnR f k e base w' v l := he.ownsRow h
theorem OwnR.kept {row : Option Nat} (h : OwnR f k e base w v l) (hg : w.grownBy w' row) (hne : v.ownBlock = none ∨ v.ownBlock ≠ row) : OwnR f k e base w' v l := World.ownsRow.kept h hg hne
theorem OwnR.low {base' : Nat} (h : OwnR f k e base w v l) (hb : base' ≤ base) : OwnR f k e base' w v l :=
  ⟨h.1, h.2.imp id fun ⟨g, cap, cur, hv, hg, r⟩ => ⟨g, cap, cur, hv, Nat.le_trans hb hg, r⟩⟩
theorem OwnR.ne_blk (h : OwnR f k e base w v l) {g : Nat} {cs : Array Value} {t : TypeId} {fr : Nat × Nat} (hb : w.heap[g]? = some (.cells cs t fr)) (hne : e ≠ t) : v.ownBlock ≠ some g := fun ee => by
  rcases h.2 with ⟨rfl, _⟩ | ⟨g', cap, cur, rfl, _, hg, _⟩
  · cases ee
  · have : g' = g := by simpa [Value.ownBlock] using ee
    subst this
    rw [hb] at hg
    injection hg with hg
    injection hg with _ he
    exact hne he.symm
end
/-- what an append asks of an element type of k cells -/
structure ElemN (P : Program) (t e : TypeId) (k bytes : Nat) : Prop where
  slice : P.underlying t = some (.slice e)
  pos : 0 < k
  info : ∃ i z, P.info? e = some i ∧ i.zero = some z ∧ i.size = k ∧ i.bytes = bytes ∧ z.cells.size = k
theorem wpList_appendR {α : Type} {f : α → List Value} {P : Program} {t e : TypeId} {k bytes : Nat} (he : ElemN P t e k bytes) {w : World} {ops : Array Oper} {rest : List Oper} {o : Oper} {a : Act} {Q : Exit → Act → World → Prop} (hgd : o.guard = none) (s x : Operand)
    (ho : o.op = .call { callee := .builtin .append, args := #[s, x], argTypes := #[t, t] })
    (base : Nat) (v : Value) (l : List α) (hs : a.eval s = v) (hown : OwnR f k e base w v l)
    (y : Value) (m : List α) (hx : a.eval x = y) (hr : InR f w y m) (hm : ∀ a ∈ m, (f a).length = k) (h1 : ∀ a ∈ m, ∀ u ∈ f a, u.oneCell' = true)
    (h63 : l.length + m.length ≤ 1073741824) (hb : bytes ≤ 4096) (hbase : base ≤ w.heap.size)
    (h : ∀ v' w', OwnR f k e base w' v' (l ++ m) → Grew w w' v v' → wpList P ops Q rest (a.put o.dst v') w') : wpList P ops Q (o :: rest) a w := by
  obtain ⟨i0, z, hi, hz0, hz1, hz2, hzc⟩ := he.info
  obtain ⟨A, c, rfl, _, hr⟩ := hr
  exact wpList_append_rd hgd s x _ ho base _ i0 _ k bytes he.slice hi hz0 hz1 hz2 hzc he.pos v l.length _ hs hown A m.length c (m.flatMap f) hx (flat_len m hm) hr (fun u hu => by
      obtain ⟨b, hb, hu⟩ := List.mem_flatMap.1 hu
      exact h1 b hb u hu)
    (by simp only [maxLen]; omega) (by
      have : (l.length + m.length) * bytes ≤ 1073741824 * 4096 := Nat.mul_le_mul h63 hb
      omega) hbase fun v' w' h2 h3 h4 => h v' w' (by unfold OwnR; simpa using h2) (Grew.of_append h3 h4)

section
variable {P : Program}
/-- one struct as a row -/
theorem run_rowOne {t e : TypeId} {k bytes : Nat} (he : ElemN P t e k bytes) (w : World) (cs : Array Value) (hs : cs.size = k) (hk : k ≤ 1000) :
    (Instr.buildSlice t 1 #[(0, .agg cs)]).run P w = .ok (.slice (some ⟨w.heap.size, 0, none⟩) 1 1) (w.alloc (.cells cs e)) := by
  obtain ⟨i, z, hi, hz0, hz1, hz2, hzc⟩ := he.info
  have hp := he.pos
  have hf := Great.fill_whole (s := k) hp [.agg cs] ((Array.range (1 * k)).map (z.cells[· % z.cells.size]!)) (fun v hv => by simp only [List.mem_singleton] at hv; subst hv; exact hs) (by simp)
  refine run_buildSlice w t e 1 _ cs i z he.slice hi hz0 (by rw [hz1]; simp; omega) (by rw [hz1]; omega) ?_
  rw [hz1]
  simpa [Value.cells] using hf
theorem wpList_rowOne {t e : TypeId} {k bytes : Nat} (he : ElemN P t e k bytes) {ops : Array Oper} {rest : List Oper} {o : Oper} {a : Act} {w : World} {Q : Exit → Act → World → Prop} (hg : o.guard = none) (x : Operand) (ho : o.op = .buildSlice t 1 #[(0, x)])
    (cs : Array Value) (hx : a.eval x = .agg cs) (hs : cs.size = k) (hk : k ≤ 1000)
    (h : wpList P ops Q rest (a.put o.dst (.slice (some ⟨w.heap.size, 0, none⟩) 1 1)) (w.alloc (.cells cs e))) : wpList P ops Q (o :: rest) a w := by
  refine wpList_run hg _ ?_ h
  unfold execOp
  simp only [ho, Sem.run_bind, List.map_toArray, List.map_cons, List.map_nil, hx, run_rowOne he w cs hs hk, Result.andThen_ok, Sem.run_pure]
/-- an append of structs, as an outcome -/
theorem exec_appendR {α : Type} {f : α → List Value} {t e : TypeId} {k bytes : Nat} (he : ElemN P t e k bytes) {w : World} {o : Oper} {ev : Operand → Value} (s x : Operand)
    (ho : o.op = .call { callee := .builtin .append, args := #[s, x], argTypes := #[t, t] })
    (base : Nat) (v : Value) (l : List α) (hs : ev s = v) (hown : OwnR f k e base w v l)
    (y : Value) (m : List α) (hx : ev x = y) (hr : InR f w y m) (hm : ∀ a ∈ m, (f a).length = k) (h1 : ∀ a ∈ m, ∀ u ∈ f a, u.oneCell' = true)
    (h63 : l.length + m.length ≤ 1073741824) (hb : bytes ≤ 4096) (hbase : base ≤ w.heap.size) :
    ∃ v' w', (execOp ev o).run P w = .ok (.value v') w' ∧ OwnR f k e base w' v' (l ++ m) ∧ Grew w w' v v' := by
  obtain ⟨i0, z, hi, hz0, hz1, hz2, hzc⟩ := he.info
  obtain ⟨A, c, rfl, _, hr⟩ := hr
  obtain ⟨v', w', hrun, h2, h3, h4⟩ := run_append_rd (P := P) w base t o.type e i0 z k bytes he.slice hi hz0 hz1 hz2 hzc he.pos v l.length _ hown A m.length c (m.flatMap f) (flat_len m hm) hr (fun u hu => by
      obtain ⟨b, hb, hu⟩ := List.mem_flatMap.1 hu
      exact h1 b hb u hu) (by simp only [maxLen]; omega) (by
      have : (l.length + m.length) * bytes ≤ 1073741824 * 4096 := Nat.mul_le_mul h63 hb
      omega) hbase
  refine ⟨v', w', ?_, by unfold OwnR; simpa using h2, Grew.of_append h3 h4⟩
  unfold execOp
  simp only [ho, resolve, invoke, builtin, Sem.run_bind, Sem.run_pure, Result.andThen_ok, List.map_toArray, List.map_cons, List.map_nil, hs, hx, hrun]
end
theorem OwnR_one {α : Type} {f : α → List Value} {k : Nat} (w : World) (x : α) (hf : (f x).length = k) (e : TypeId) : OwnR f k e w.heap.size (w.alloc (.cells (f x).toArray e)) (.slice (some ⟨w.heap.size, 0, none⟩) 1 1) [x] :=
  ⟨by simp [hf], .inr ⟨w.heap.size, 1, (f x).toArray, rfl, Nat.le_refl _, heap_alloc_new w _, Nat.le_refl _, by decide, by simp [hf], by simpa using List.take_of_length_le (Nat.le_of_eq hf)⟩⟩
theorem OwnR.lt {α : Type} {f : α → List Value} {k : Nat} {e : TypeId} {base : Nat} {w : World} {v : Value} {l : List α} (h : OwnR f k e base w v l) : ∀ x, v.ownBlock = some x → x < w.heap.size := fun x hx => (World.ownsRow.lt h x hx).2
/-- cells that are written one after another into a block -/
theorem setCells_blk {w : World} {g o : Nat} {cs : List Value} {t : TypeId} (h : w.heap[g]? = some (.cells cs.toArray t (0, 0))) (vs : List Value) (hl : o + vs.length ≤ cs.length) :
    (w.setCells g o vs).heap[g]? = some (.cells (cs.take o ++ (vs ++ cs.drop (o + vs.length))).toArray t (0, 0)) ∧ w.grownBy (w.setCells g o vs) (some g) := by
  obtain ⟨cur', a1, a2, a3⟩ := setCells_block g t (0, 0) vs o w cs.toArray h (by simpa using hl)
  have hb := Go.below_setCells (B := g) (Nat.le_refl g) vs o w (Below.refl _ _)
  refine ⟨?_, hb.os, hb.tape, hb.output, hb.size, fun k hk hne => World.heap_setCells_other w g _ vs hk (fun e => hne (by rw [e]))⟩
  rw [a1]
  congr 2
  apply Array.ext_getElem?
  intro j
  rw [a3 j]
  simp only [List.getElem?_toArray]
  rw [List.getElem?_append, List.length_take, List.getElem?_append, List.getElem?_take, List.getElem?_drop]
  have hm : min o cs.length = o := by omega
  rw [hm]
  by_cases h1 : j < o
  · rw [if_neg (by omega), if_pos h1, if_pos h1]
  · rw [if_neg h1]
    by_cases h2 : j < o + vs.length
    · rw [if_pos (by omega), if_pos (by omega)]
    · rw [if_neg (by omega), if_neg (by omega)]
      congr 1
      omega

section
variable {P : Program} {ops : Array Oper} {Q : Exit → Act → World → Prop}
theorem op_makeD {B : Nat} {ob : Oper} {d : Tmp} {K : Act → World → Prop} {tm : Array Value} {df : List Deferred} {W W' : World} {v : Value} (hob : ops[B]? = some ob) (hd : ob.dst = some d) (gb : ob.guard = none) (hmk : (execOp (Act.mk tm df).eval ob).run P W = .ok (.value v) W') (h : K ⟨tm.setIfInBounds d v, df⟩ W') : wpOp P ops Q B K ⟨tm, df⟩ W :=
  op_make hob gb hmk (by rw [hd]; exact h)
theorem op_callD {B : Nat} {ob : Oper} {d : Tmp} {K : Act → World → Prop} {tm : Array Value} {df : List Deferred} {W : World} {f : FuncId} {args : Array Value} (hob : ops[B]? = some ob) (hd : ob.dst = some d) (gb : ob.guard = none) (hx : (execOp (Act.mk tm df).eval ob).run P W = .ok (.enter f args) W) (h : Calls P f args W (fun e w' => ∃ v, e = .returned v ∧ K ⟨tm.setIfInBounds d v, df⟩ w')) : wpOp P ops Q B K ⟨tm, df⟩ W :=
  op_call hob gb hx (by rw [hd]; exact h)
theorem op_appendD {α : Type} {f : α → Value} {e t : TypeId} {bytes : Nat} (he : Elem1 P t e bytes) (h1 : ∀ y, (f y).oneCell' = true) {base : Nat} {v : Value} {l m : List α} {A : Nat} {oa : Oper} {d : Tmp} {s x : Operand} {u : Value} {K : Act → World → Prop} {tm : Array Value} {df : List Deferred} {W : World}
    (hoa : ops[A]? = some oa) (hd : oa.dst = some d) (ga : oa.guard = none) (op : oa.op = .call { callee := .builtin .append, args := #[s, x], argTypes := #[t, t] }) (hs : (Act.mk tm df).eval s = v) (hu : (Act.mk tm df).eval x = u)
    (hb : base ≤ W.heap.size) (hl : l.length + m.length ≤ 1073741824) (hby : bytes ≤ 4096) (h2 : OwnV f e base W v l) (h3 : InV f W u m)
    (h : ∀ v' W', OwnV f e base W' v' (l ++ m) → Grew W W' v v' → K ⟨tm.setIfInBounds d v', df⟩ W') : wpOp P ops Q A K ⟨tm, df⟩ W :=
  op_append he h1 hoa ga op hs hu hb hl hby h2 h3 (fun v' W' a b => by rw [hd]; exact h v' W' a b)
theorem op_appendRD {α : Type} {f : α → List Value} {e t : TypeId} {k bytes : Nat} (he : ElemN P t e k bytes) {base : Nat} {v : Value} {l m : List α} {A : Nat} {oa : Oper} {d : Tmp} {s x : Operand} {u : Value} {K : Act → World → Prop} {tm : Array Value} {df : List Deferred} {W : World}
    (hoa : ops[A]? = some oa) (hd : oa.dst = some d) (ga : oa.guard = none) (op : oa.op = .call { callee := .builtin .append, args := #[s, x], argTypes := #[t, t] }) (hs : (Act.mk tm df).eval s = v) (hu : (Act.mk tm df).eval x = u)
    (hb : base ≤ W.heap.size) (hl : l.length + m.length ≤ 1073741824) (hby : bytes ≤ 4096) (h2 : OwnR f k e base W v l) (h3 : InR f W u m) (hm : ∀ a ∈ m, (f a).length = k) (h1 : ∀ a ∈ m, ∀ u ∈ f a, u.oneCell' = true)
    (h : ∀ v' W', OwnR f k e base W' v' (l ++ m) → Grew W W' v v' → K ⟨tm.setIfInBounds d v', df⟩ W') : wpOp P ops Q A K ⟨tm, df⟩ W := by
  obtain ⟨v', W', hrun, a, b⟩ := exec_appendR he (w := W) s x op base v l hs h2 u m hu h3 hm h1 hl hby hb
  exact op_make hoa ga hrun (by rw [hd]; exact h v' W' a b)
end
/-- memory has grown from W0, unless the store k has come up -/
def EtS (k : Nat) (W0 : World) (f : Nat → Bool) (W : World) : Prop := f k = false → Ext W0 W
theorem ownR_empty {α : Type} {f : α → List Value} {k : Nat} (w : World) (e : TypeId) : OwnR f k e w.heap.size (w.alloc (.cells #[] e)) (.slice (some ⟨w.heap.size, 0, none⟩) 0 0) [] :=
  ⟨by simp, .inr ⟨w.heap.size, 0, #[], rfl, Nat.le_refl _, heap_alloc_new w _, Nat.le_refl _, Nat.zero_le _, by simp, by simp⟩⟩
/-! facts that hold while only the blocks xs are written, and those that are made -/
def St (xs : List Nat) (W : World) (φ : World → Prop) : Prop := ∀ W', Kept W.heap.size xs W W' → φ W'
theorem St.out {xs : List Nat} {W : World} {φ : World → Prop} (h : St xs W φ) : φ W := h W (Kept.refl _ _ _)
theorem Kept.low' {b b' : Nat} {xs : List Nat} {a c : World} (h : Kept b xs a c) (hb : b' ≤ b) : Kept b' xs a c := ⟨h.os, h.tape, h.output, h.size, fun i hi hx => h.block i (Nat.lt_of_lt_of_le hi hb) hx⟩
theorem St.mono {xs ys : List Nat} {W W1 : World} {φ : World → Prop} (h : St xs W φ) (hk : Kept W.heap.size xs W W1) (hy : ∀ y ∈ ys, y ∈ xs ∨ W.heap.size ≤ y) : St ys W1 φ := fun W' hk' =>
  h W' ⟨hk'.os.trans hk.os, hk'.tape.trans hk.tape, hk'.output.trans hk.output, Nat.le_trans hk.size hk'.size, fun i hi hx => (hk'.block i (Nat.lt_of_lt_of_le hi hk.size) (fun hm => by
    rcases hy i hm with h1 | h1
    · exact hx h1
    · omega)).trans (hk.block i hi hx)⟩
theorem St.ext {xs : List Nat} {W W1 : World} {φ : World → Prop} (h : St xs W φ) (hx : Ext W W1) : St xs W1 φ := h.mono (Kept.of_ext hx (Nat.le_refl _)) (fun y hy => .inl hy)
theorem St.imp {xs : List Nat} {W : World} {φ ψ : World → Prop} (h : St xs W φ) (hi : ∀ W', φ W' → ψ W') : St xs W ψ := fun W' hk => hi W' (h W' hk)
theorem St.of_ext {xs : List Nat} {w W : World} {φ : World → Prop} (h : ∀ W', Ext w W' → φ W') (he : Ext w W) (hx : ∀ x ∈ xs, w.heap.size ≤ x) : St xs W φ := fun W' hk => h W' (hk.ext he he.size hx)
theorem Kept.ownR {α : Type} {f : α → List Value} {k : Nat} {e : TypeId} {base b0 : Nat} {xs : List Nat} {w W : World} {v : Value} {l : List α} (h : Kept base xs w W) (ho : OwnR f k e b0 w v l) (hb : ∀ k, v.ownBlock = some k → k < base ∧ k ∉ xs) : OwnR f k e b0 W v l := by
  refine ⟨ho.1, ?_⟩
  rcases ho.2 with h3 | ⟨g, cap, cur, rfl, hg, hh, r⟩
  · exact Or.inl h3
  · obtain ⟨h1, h2⟩ := hb g rfl
    exact Or.inr ⟨g, cap, cur, rfl, hg, h.heap hh h1 h2, r⟩
theorem St.ownV {α : Type} {f : α → Value} {e : TypeId} {b0 : Nat} {xs : List Nat} {W : World} {v : Value} {l : List α} (ho : OwnV f e b0 W v l) (hx : ∀ x ∈ xs, v.ownBlock ≠ some x) : St xs W (fun W' => OwnV f e b0 W' v l) := fun W' hk =>
  hk.ownV ho (fun k hk' => ⟨ho.lt k hk', fun hm => hx k hm hk'⟩)
theorem St.ownR {α : Type} {f : α → List Value} {k : Nat} {e : TypeId} {b0 : Nat} {xs : List Nat} {W : World} {v : Value} {l : List α} (ho : OwnR f k e b0 W v l) (hx : ∀ x ∈ xs, v.ownBlock ≠ some x) : St xs W (fun W' => OwnR f k e b0 W' v l) := fun W' hk =>
  hk.ownR ho (fun k hk' => ⟨ho.lt k hk', fun hm => hx k hm hk'⟩)
/-- facts that look only at what was made behind w -/
def Fr (w w' : World) (φ : World → Prop) : Prop := ∀ W', w'.heap.size ≤ W'.heap.size → (∀ i, w.heap.size ≤ i → i < w'.heap.size → W'.heap[i]? = w'.heap[i]?) → φ W'
theorem Fr.out {w w' : World} {φ : World → Prop} (h : Fr w w' φ) : φ w' := h w' (Nat.le_refl _) (fun _ _ _ => rfl)
theorem Fr.st {w w' : World} {φ : World → Prop} {xs : List Nat} (h : Fr w w' φ) (hx : ∀ x ∈ xs, x < w.heap.size) : St xs w' φ := fun W' hk => h W' hk.size (fun i h1 h2 => hk.block i h2 (fun hm => by have := hx i hm; omega))
theorem Fr.imp {w w' : World} {φ ψ : World → Prop} (h : Fr w w' φ) (hi : ∀ W', φ W' → ψ W') : Fr w w' ψ := fun W' h1 h2 => hi W' (h W' h1 h2)
theorem Fr.ext {w0 w w' w1 : World} {φ : World → Prop} (h : Fr w w' φ) (h0 : Ext w0 w) (hx : Ext w' w1) : Fr w0 w1 φ := fun W' h1 h2 => h W' (Nat.le_trans hx.size h1) (fun i h3 h4 => (h2 i (Nat.le_trans h0.size h3) (Nat.lt_of_lt_of_le h4 hx.size)).trans (hx.block i h4))
theorem Fr.ownV {α : Type} {f : α → Value} {e : TypeId} {w w' : World} {v : Value} {l : List α} (ho : OwnV f e w.heap.size w' v l) : Fr w w' (fun W' => OwnV f e w.heap.size W' v l) := fun W' h1 h2 => by
  refine ⟨ho.1, ?_⟩
  rcases ho.2 with h3 | ⟨g, cap, cur, rfl, hg, hh, r⟩
  · exact Or.inl h3
  · exact Or.inr ⟨g, cap, cur, rfl, hg, (h2 g hg (heap_lt hh)).trans hh, r⟩
theorem Fr.ownR {α : Type} {f : α → List Value} {k : Nat} {e : TypeId} {w w' : World} {v : Value} {l : List α} (ho : OwnR f k e w.heap.size w' v l) : Fr w w' (fun W' => OwnR f k e w.heap.size W' v l) := fun W' h1 h2 => by
  refine ⟨ho.1, ?_⟩
  rcases ho.2 with h3 | ⟨g, cap, cur, rfl, hg, hh, r⟩
  · exact Or.inl h3
  · exact Or.inr ⟨g, cap, cur, rfl, hg, (h2 g hg (heap_lt hh)).trans hh, r⟩
end Go.Proofs.Ytopanbcodfkedaa
