/- Structs of several cells in blocks and rows: loaded, stored and laid into rows whole. No statement about the program. -/
import Derived.Test.YtoeibcpjmoekpaaRepA
import Derived.Great.BuildSlice
import Derived.Laws.IdiomCopy
import Derived.Lib.SlBuf
namespace Go.Proofs.Ytoeibcpjmoekpaa
open Go.RowKit
set_option linter.unusedVariables false

section
variable {P : Program}
theorem gsetRow (w : World) (g : Nat) (cs : Array Value) : w.grownBy (w.setRow g cs) (some g) :=
  ⟨rfl, rfl, rfl, by simp [World.setRow], fun k _ hk => setRow_other w g k cs (fun e => hk (by rw [e]))⟩
theorem run_storeAt_blk (w : World) (g : Nat) (t ty : TypeId) (old cells : Array Value) (hg : w.heap[g]? = some (.cells old t (0, 0))) (hi : (P.info? ty).map (·.size) = some cells.size)
    (ho : old.size = cells.size) (h1 : cells.all (·.oneCell') = true) : (Instr.storeAt ty (.pointer (some ⟨g, 0, none⟩)) (.agg cells)).run P w = .ok () (w.setRow g cells) := by
  simp only [Instr.storeAt, Instr.sureAddr, Sem.run_bind, Sem.run_pure, Result.andThen]
  exact run_storeVar_row w g t ty old cells hg hi ho h1
theorem run_loadAt_blk (w : World) (g : Nat) (t ty : TypeId) (cs : Array Value) (fr : Nat × Nat) (d : TypeDesc) (hg : w.heap[g]? = some (.cells cs t fr))
    (hu : P.underlying ty = some d) (hd : (match d with | .struct _ | .array _ _ => true | _ => false) = true) (hi : (P.info? ty).map (·.size) = some cs.size) :
    (Instr.loadAt ty (.pointer (some ⟨g, 0, none⟩))).run P w = .ok (.agg cs) w := by
  simp only [Instr.loadAt, Instr.sureAddr, Sem.run_bind, Sem.run_pure, Result.andThen]
  exact run_loadVar_row w g t ty cs fr d hg hu hd hi
/-- any operation of which the outcome is known -/
theorem wpList_run {ops : Array Oper} {rest : List Oper} {op : Oper} {a : Act} {w w' : World} {Q : Exit → Act → World → Prop} (hgd : op.guard = none) (v : Value)
    (hr : (execOp a.eval op).run P w = .ok (.value v) w') (h : wpList P ops Q rest (a.put op.dst v) w') : wpList P ops Q (op :: rest) a w :=
  wpList_plain hgd fun _ hK => by
    unfold Oper.wp
    simp only [hr, Oper.upon]
    exact hK _ _ h
/-- one struct as a row -/
theorem run_rowOne {t e : TypeId} {k bytes : Nat} (he : ElemN P t e k bytes) (w : World) (cs : Array Value) (hs : cs.size = k) (hk : k ≤ 1000) :
    (Instr.buildSlice t 1 #[(0, .agg cs)]).run P w = .ok (.slice (some ⟨w.heap.size, 0, none⟩) 1 1) (w.alloc (.cells cs e)) := by
  obtain ⟨i, z, hi, hz0, hz1, hz2, hzc⟩ := he.info
  have hp := he.pos
  have hf := Great.fill_whole (s := k) hp [.agg cs] ((Array.range (1 * k)).map (z.cells[· % z.cells.size]!)) (fun v hv => by simp only [List.mem_singleton] at hv; subst hv; exact hs) (by simp)
  refine run_buildSlice w t e 1 _ cs i z he.slice hi hz0 (by rw [hz1]; simp; omega) (by rw [hz1]; omega) ?_
  rw [hz1]
  simpa [Value.cells] using hf
theorem wpList_rowOne {t e : TypeId} {k bytes : Nat} (he : ElemN P t e k bytes) {ops : Array Oper} {rest : List Oper} {o : Oper} {a : Act} {w : World} {Q : Exit → Act → World → Prop} (hg : o.guard = none) (x : Operand) (ho : o.op = .buildSlice t 1 #[(0, x)])
    (cs : Array Value) (hx : a.eval x = .agg cs) (hs : cs.size = k) (hk : k ≤ 1000)
    (h : wpList P ops Q rest (a.put o.dst (.slice (some ⟨w.heap.size, 0, none⟩) 1 1)) (w.alloc (.cells cs e))) : wpList P ops Q (o :: rest) a w := by
  refine wpList_run hg _ ?_ h
  unfold execOp
  simp only [ho, Sem.run_bind, List.map_toArray, List.map_cons, List.map_nil, hx, run_rowOne he w cs hs hk, Result.andThen_ok, Sem.run_pure]
/-- two structs as a row -/
theorem run_rowTwo {t e : TypeId} {k bytes : Nat} (he : ElemN P t e k bytes) (w : World) (cs ds : Array Value) (hs : cs.size = k) (hd : ds.size = k) (hk : k ≤ 1000) :
    (Instr.buildSlice t 2 #[(0, .agg cs), (1, .agg ds)]).run P w = .ok (.slice (some ⟨w.heap.size, 0, none⟩) 2 2) (w.alloc (.cells (cs ++ ds) e)) := by
  obtain ⟨i, z, hi, hz0, hz1, hz2, hzc⟩ := he.info
  have hp := he.pos
  have hf := Great.fill_whole (s := k) hp [.agg cs, .agg ds] ((Array.range (2 * k)).map (z.cells[· % z.cells.size]!)) (fun v hv => by simp only [List.mem_cons, List.not_mem_nil, or_false] at hv; rcases hv with rfl | rfl <;> assumption) (by simp)
  refine run_buildSlice w t e 2 _ (cs ++ ds) i z he.slice hi hz0 (by rw [hz1]; simp; omega) (by rw [hz1]; omega) ?_
  rw [hz1]
  have e : (cs ++ ds) = (([.agg cs, .agg ds] : List Value).flatMap fun v => v.cells.toList).toArray := by
    apply Array.ext'
    simp [Value.cells]
  rw [e]
  exact hf
theorem wpList_rowTwo {t e : TypeId} {k bytes : Nat} (he : ElemN P t e k bytes) {ops : Array Oper} {rest : List Oper} {o : Oper} {a : Act} {w : World} {Q : Exit → Act → World → Prop} (hg : o.guard = none) (x y : Operand) (ho : o.op = .buildSlice t 2 #[(0, x), (1, y)])
    (cs ds : Array Value) (hx : a.eval x = .agg cs) (hy : a.eval y = .agg ds) (hs : cs.size = k) (hd : ds.size = k) (hk : k ≤ 1000)
    (h : wpList P ops Q rest (a.put o.dst (.slice (some ⟨w.heap.size, 0, none⟩) 2 2)) (w.alloc (.cells (cs ++ ds) e))) : wpList P ops Q (o :: rest) a w := by
  refine wpList_run hg _ ?_ h
  unfold execOp
  simp only [ho, Sem.run_bind, List.map_toArray, List.map_cons, List.map_nil, hx, hy, run_rowTwo he w cs ds hs hd hk, Result.andThen_ok, Sem.run_pure]
/-- an append of structs, as an outcome -/
theorem exec_appendR {α : Type} {f : α → List Value} {t e : TypeId} {k bytes : Nat} (he : ElemN P t e k bytes) {w : World} {o : Oper} {ev : Operand → Value} (s x : Operand)
    (ho : o.op = .call { callee := .builtin .append, args := #[s, x], argTypes := #[t, t] })
    (base : Nat) (v : Value) (l : List α) (hs : ev s = v) (hown : OwnR f k e base w v l)
    (y : Value) (m : List α) (hx : ev x = y) (hr : InR f w y m) (hm : ∀ a ∈ m, (f a).length = k) (h1 : ∀ a ∈ m, ∀ u ∈ f a, u.oneCell' = true)
    (h63 : l.length + m.length ≤ 1073741824) (hb : bytes ≤ 4096) (hbase : base ≤ w.heap.size) :
    ∃ v' w', (execOp ev o).run P w = .ok (.value v') w' ∧ OwnR f k e base w' v' (l ++ m) ∧ Grew w w' v v' := by
  obtain ⟨i0, z, hi, hz0, hz1, hz2, hzc⟩ := he.info
  obtain ⟨A, c, rfl, _, hr⟩ := hr
  obtain ⟨v', w', hrun, h2, h3, h4⟩ := run_append_rd (P := P) w base t o.type e i0 z k bytes he.slice hi hz0 hz1 hz2 hzc he.pos v l.length _ hown A m.length c (m.flatMap f) (flat_len m hm) hr (fun u hu => by
      obtain ⟨b, hb, hu⟩ := List.mem_flatMap.1 hu
      exact h1 b hb u hu) (by simp only [maxLen]; omega) (by
      have : (l.length + m.length) * bytes ≤ 1073741824 * 4096 := Nat.mul_le_mul h63 hb
      omega) hbase
  refine ⟨v', w', ?_, by unfold OwnR; simpa using h2, Grew.of_append h3 h4⟩
  unfold execOp
  simp only [ho, resolve, invoke, builtin, Sem.run_bind, Sem.run_pure, Result.andThen_ok, List.map_toArray, List.map_cons, List.map_nil, hs, hx, hrun]
/-- an append of structs in a region that draws its order -/
theorem wpZ_appendR {α : Type} {f : α → List Value} {md : Region.Mode} {ops : Array Oper} {Q : Exit → Act → World → Prop} {LF : Array Bool} {T : Nat → Array Bool → Act → World → Prop} {t e : TypeId} {k bytes : Nat} (he : ElemN P t e k bytes) (i : Nat) {o : Oper} {d : Tmp} {n : Nat} {listed : Array Bool} {tm : Array Value} {df : List Deferred} {w : World}
    (s x : Operand) (base : Nat) (v : Value) (l : List α) (y : Value) (m : List α) (ho : ops[i]? = some o) (hd : o.dst = some d) (hr : Region.ready md ops listed = [i]) (hLF : LF.getD i false = true) (hg : Region.wanted o (yielded ops tm) = true)
    (hop : o.op = .call { callee := .builtin .append, args := #[s, x], argTypes := #[t, t] }) (hs : (Act.mk tm df).eval s = v) (hx : (Act.mk tm df).eval x = y)
    (hown : OwnR f k e base w v l) (hin : InR f w y m) (hm : ∀ a ∈ m, (f a).length = k) (h1 : ∀ a ∈ m, ∀ u ∈ f a, u.oneCell' = true) (h63 : l.length + m.length ≤ 1073741824) (hb : bytes ≤ 4096) (hbase : base ≤ w.heap.size)
    (h : ∀ v' W W', Ext w W → OwnR f k e base W' v' (l ++ m) → Grew W W' v v' → wpZ P md ops Q LF v.ownBlock T n (listed.setIfInBounds i true) ⟨tm.setIfInBounds d v', df⟩ W') : wpZ P md ops Q LF v.ownBlock T (n + 1) listed ⟨tm, df⟩ w := by
  refine wpZ_m i ho hd hr hLF hg fun W hW => ?_
  obtain ⟨v', W', hrun, h2, h3⟩ := exec_appendR he (w := W) s x hop base v l hs (hown.ext hW) y m hx (hin.ext hW) hm h1 h63 hb (Nat.le_trans hbase hW.size)
  exact ⟨v', W', hrun, h3.grown, h v' W W' hW h2 h3⟩
end
theorem heap_lt {w : World} {g : Nat} {o : Obj} (h : w.heap[g]? = some o) : g < w.heap.size := by
  rcases Nat.lt_or_ge g w.heap.size with h' | h'
  · exact h'
  · rw [Array.getElem?_eq_none h'] at h; cases h
/-- rows of different element types lie in different blocks -/
theorem row_ne {w : World} {base base' : Nat} {e e' : TypeId} {k k' n n' : Nat} {v v' : Value} {xs xs' : List Value} (h : w.ownsRow base e k v n xs) (h' : w.ownsRow base' e' k' v' n' xs') (hne : e ≠ e') : v.ownBlock = none ∨ v.ownBlock ≠ v'.ownBlock := by
  rcases h.2 with ⟨rfl, _⟩ | ⟨g, cap, cur, rfl, _, hg, _⟩
  · exact .inl rfl
  · rcases h'.2 with ⟨rfl, _⟩ | ⟨g', cap', cur', rfl, _, hg', _⟩
    · exact .inr (by simp [Value.ownBlock])
    · refine .inr fun ee => ?_
      have : g = g' := by simpa [Value.ownBlock] using ee
      subst this
      rw [hg] at hg'
      injection hg' with hg'
      injection hg' with _ he
      exact hne he
theorem OwnR_one {α : Type} {f : α → List Value} {k : Nat} (w : World) (x : α) (hf : (f x).length = k) (e : TypeId) : OwnR f k e w.heap.size (w.alloc (.cells (f x).toArray e)) (.slice (some ⟨w.heap.size, 0, none⟩) 1 1) [x] :=
  ⟨by simp [hf], .inr ⟨w.heap.size, 1, (f x).toArray, rfl, Nat.le_refl _, heap_alloc_new w _, Nat.le_refl _, by decide, by simp [hf], by simpa using List.take_of_length_le (Nat.le_of_eq hf)⟩⟩
theorem OwnR.lt {α : Type} {f : α → List Value} {k : Nat} {e : TypeId} {base : Nat} {w : World} {v : Value} {l : List α} (h : OwnR f k e base w v l) : ∀ x, v.ownBlock = some x → x < w.heap.size := fun x hx => (World.ownsRow.lt h x hx).2
/-- cells that are written one after another into a block -/
theorem setCells_blk {w : World} {g o : Nat} {cs : List Value} {t : TypeId} (h : w.heap[g]? = some (.cells cs.toArray t (0, 0))) (vs : List Value) (hl : o + vs.length ≤ cs.length) :
    (w.setCells g o vs).heap[g]? = some (.cells (cs.take o ++ (vs ++ cs.drop (o + vs.length))).toArray t (0, 0)) ∧ w.grownBy (w.setCells g o vs) (some g) := by
  obtain ⟨cur', a1, a2, a3⟩ := setCells_block g t (0, 0) vs o w cs.toArray h (by simpa using hl)
  have hb := Go.below_setCells (B := g) (Nat.le_refl g) vs o w (Below.refl _ _)
  refine ⟨?_, hb.os, hb.tape, hb.output, hb.size, fun k hk hne => World.heap_setCells_other w g _ vs hk (fun e => hne (by rw [e]))⟩
  rw [a1]
  congr 2
  apply Array.ext_getElem?
  intro j
  rw [a3 j]
  simp only [List.getElem?_toArray]
  rw [List.getElem?_append, List.length_take, List.getElem?_append, List.getElem?_take, List.getElem?_drop]
  have hm : min o cs.length = o := by omega
  rw [hm]
  by_cases h1 : j < o
  · rw [if_neg (by omega), if_pos h1, if_pos h1]
  · rw [if_neg h1]
    by_cases h2 : j < o + vs.length
    · rw [if_pos (by omega), if_pos (by omega)]
    · rw [if_neg (by omega), if_neg (by omega)]
      congr 1
      omega
end Go.Proofs.Ytoeibcpjmoekpaa
