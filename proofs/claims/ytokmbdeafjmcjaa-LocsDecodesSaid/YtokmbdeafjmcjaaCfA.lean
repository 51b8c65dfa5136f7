/- Frame tables: words in memory, what may be encoded. -/
import Derived.Test.YtokmbdeafjmcjaaLinA
namespace Go.Proofs.Ytokmbdeafjmcjaa
open Go.RowKit
set_option linter.unusedVariables false

structure Stp where
  addr : Int
  off : Int
def stpCells (r : Stp) : List Value := [.int .i64 r.addr, .int .i64 r.off]
structure Obj where
  ctx : Int
  var : Int
  slot : Int
  words : Int
def objCells (r : Obj) : List Value := [.int .i64 r.ctx, .int .i64 r.var, .int .i64 r.slot, .int .i64 r.words]
structure FTab where
  lo : Int
  hi : Int
  steps : List Stp
  objs : List Obj
def ftabCells (z : FTab × Value × Value) : List Value := [.int .i64 z.1.lo, .int .i64 z.1.hi, z.2.1, z.2.2]
def FTabs (w : World) (v : Value) (l : List FTab) : Prop := ∃ zs : List (FTab × Value × Value), zs.map Prod.fst = l ∧ InR ftabCells w v zs ∧ ∀ z ∈ zs, InR stpCells w z.2.1 z.1.steps ∧ InR objCells w z.2.2 z.1.objs
theorem FTabs.ext {w w' : World} {v : Value} {l : List FTab} (h : FTabs w v l) (he : Ext w w') : FTabs w' v l := by
  obtain ⟨zs, h1, h2, h3⟩ := h
  exact ⟨zs, h1, h2.ext he, fun z hz => ⟨(h3 z hz).1.ext he, (h3 z hz).2.ext he⟩⟩
theorem FTabs.nil (w : World) : FTabs w (.slice none 0 0) [] := ⟨[], rfl, InR.nil w, by simp⟩
theorem FTabs.form {w : World} {v : Value} {l : List FTab} (h : FTabs w v l) : ∃ A c, v = .slice A l.length c := by
  obtain ⟨zs, rfl, ⟨A, c, rfl, _⟩, _⟩ := h
  exact ⟨A, c, by simp⟩
theorem FTabs.at_ {w : World} {A : Option Addr} {n c : Nat} {l : List FTab} (h : FTabs w (.slice A n c) l) {j : Nat} (hj : j < l.length) :
    ∃ b off y z, A = some ⟨b, off, none⟩ ∧ w.rangeAt b (off + j * 4) (ftabCells (l[j], y, z)) ∧ InR stpCells w y l[j].steps ∧ InR objCells w z l[j].objs := by
  obtain ⟨zs, rfl, h2, h3⟩ := h
  have hj' : j < zs.length := by simpa using hj
  obtain ⟨b, off, rfl, hr⟩ := h2.at_ (k := 4) (fun z hz => rfl) (by omega) hj'
  refine ⟨b, off, zs[j].2.1, zs[j].2.2, rfl, ?_, ?_⟩
  · simpa using hr
  · have := h3 zs[j] (List.getElem_mem hj')
    simpa using this
/-- tables of the call's own -/
def FOwn (base : Nat) (w : World) (v : Value) (l : List FTab) : Prop := ∃ zs : List (FTab × Value × Value), zs.map Prod.fst = l ∧ OwnR ftabCells 4 27 base w v zs ∧ ∀ z ∈ zs, OwnR stpCells 2 78 base w z.2.1 z.1.steps ∧ OwnR objCells 4 83 base w z.2.2 z.1.objs
theorem FOwn.in_ {base : Nat} {w : World} {v : Value} {l : List FTab} (h : FOwn base w v l) : FTabs w v l := by
  obtain ⟨zs, h1, h2, h3⟩ := h
  exact ⟨zs, h1, h2.inR, fun z hz => ⟨(h3 z hz).1.inR, (h3 z hz).2.inR⟩⟩
theorem FOwn.ext {base : Nat} {w w' : World} {v : Value} {l : List FTab} (h : FOwn base w v l) (he : Ext w w') : FOwn base w' v l := by
  obtain ⟨zs, h1, h2, h3⟩ := h
  exact ⟨zs, h1, h2.ext he, fun z hz => ⟨(h3 z hz).1.ext he, (h3 z hz).2.ext he⟩⟩
theorem FOwn.nil (base : Nat) (w : World) : FOwn base w (.slice none 0 0) [] := ⟨[], rfl, OwnR.nil w, by simp⟩
/-- a block of another kind is written -/
theorem FOwn.kept {base : Nat} {w w' : World} {v : Value} {l : List FTab} (h : FOwn base w v l) {g : Nat} {cs : Array Value} {t : TypeId} {fr : Nat × Nat} (hb : w.heap[g]? = some (.cells cs t fr)) (hg : w.grownBy w' (some g)) (hlow : g < base) : FOwn base w' v l := by
  obtain ⟨zs, h1, h2, h3⟩ := h
  have ne : ∀ (v : Value), (∀ x, v.ownBlock = some x → base ≤ x) → v.ownBlock = none ∨ v.ownBlock ≠ some g := fun v hx => .inr (fun e => by have := hx g e; omega)
  exact ⟨zs, h1, h2.kept hg (ne _ h2.ge), fun z hz => ⟨(h3 z hz).1.kept hg (ne _ (h3 z hz).1.ge), (h3 z hz).2.kept hg (ne _ (h3 z hz).2.ge)⟩⟩
theorem Kept.fown {base b0 : Nat} {xs : List Nat} {w W : World} {v : Value} {l : List FTab} (h : Kept base xs w W) (ho : FOwn b0 w v l) (hb : ∀ k, b0 ≤ k → k < w.heap.size → k < base ∧ k ∉ xs) : FOwn b0 W v l := by
  obtain ⟨zs, h1, h2, h3⟩ := ho
  exact ⟨zs, h1, h.ownR h2 (fun k e => hb k (h2.ge k e) (h2.lt k e)), fun z hz => ⟨h.ownR (h3 z hz).1 (fun k e => hb k ((h3 z hz).1.ge k e) ((h3 z hz).1.lt k e)), h.ownR (h3 z hz).2 (fun k e => hb k ((h3 z hz).2.ge k e) ((h3 z hz).2.lt k e))⟩⟩
section
variable {w : World}
theorem stp_load {b o : Nat} {r : Stp} (h : w.rangeAt b o (stpCells r)) : (Instr.loadAt 78 (.pointer (some ⟨b, o, none⟩))).run Try.prog w = .ok (.agg #[.int .i64 r.addr, .int .i64 r.off]) w :=
  run_loadAt_mid (P := Try.prog) w b o 78 _ _ h Try.underlying78 rfl (by kernel_rfl)
theorem obj_load {b o : Nat} {r : Obj} (h : w.rangeAt b o (objCells r)) : (Instr.loadAt 83 (.pointer (some ⟨b, o, none⟩))).run Try.prog w = .ok (.agg #[.int .i64 r.ctx, .int .i64 r.var, .int .i64 r.slot, .int .i64 r.words]) w :=
  run_loadAt_mid (P := Try.prog) w b o 83 _ _ h Try.underlying83 rfl (by kernel_rfl)
theorem ftab_load {b o : Nat} {t : FTab} {y z : Value} (h : w.rangeAt b o (ftabCells (t, y, z))) : (Instr.loadAt 27 (.pointer (some ⟨b, o, none⟩))).run Try.prog w = .ok (.agg #[.int .i64 t.lo, .int .i64 t.hi, y, z]) w :=
  run_loadAt_mid (P := Try.prog) w b o 27 _ _ h Try.underlying27 rfl (by kernel_rfl)
theorem sp_size : (Try.prog.info? 78).map (·.size) = some 2 := by kernel_rfl
theorem ob_size : (Try.prog.info? 83).map (·.size) = some 4 := by kernel_rfl
theorem ft_size : (Try.prog.info? 27).map (·.size) = some 4 := by kernel_rfl
theorem blk2 {g : Nat} {a b : Value} {t : TypeId} (H : w.heap[g]? = some (.cells #[a, b] t (0, 0))) :
    w.cell? ⟨g, 0, none⟩ = some a ∧ w.cell? ⟨g, 1, none⟩ = some b := ⟨blk_at H 0 _ rfl, blk_at H 1 _ rfl⟩
end
theorem sp_info : (Try.prog.info? 78).map (fun i => (i.zero, i.size, i.bytes)) = some (some (.agg #[.int .i64 0, .int .i64 0]), 2, 16) := by kernel_rfl
theorem elem_sp : ElemN Try.prog 24 78 2 16 := by
  rcases hi : Try.prog.info? 78 with _ | i
  · have := sp_info; rw [hi] at this; cases this
  · have := sp_info
    rw [hi] at this
    simp only [Option.map_some, Option.some.injEq, Prod.mk.injEq] at this
    exact ⟨Try.underlying24, by omega, i, _, hi, this.1, this.2.1, this.2.2, rfl⟩
theorem ob_info : (Try.prog.info? 83).map (fun i => (i.zero, i.size, i.bytes)) = some (some (.agg #[.int .i64 0, .int .i64 0, .int .i64 0, .int .i64 0]), 4, 32) := by kernel_rfl
theorem elem_ob : ElemN Try.prog 25 83 4 32 := by
  rcases hi : Try.prog.info? 83 with _ | i
  · have := ob_info; rw [hi] at this; cases this
  · have := ob_info
    rw [hi] at this
    simp only [Option.map_some, Option.some.injEq, Prod.mk.injEq] at this
    exact ⟨Try.underlying25, by omega, i, _, hi, this.1, this.2.1, this.2.2, rfl⟩
theorem ft_info : (Try.prog.info? 27).map (fun i => (i.zero, i.size, i.bytes)) = some (some (.agg #[.int .i64 0, .int .i64 0, .slice none 0 0, .slice none 0 0]), 4, 64) := by kernel_rfl
theorem elem_ft : ElemN Try.prog 22 27 4 64 := by
  rcases hi : Try.prog.info? 27 with _ | i
  · have := ft_info; rw [hi] at this; cases this
  · have := ft_info
    rw [hi] at this
    simp only [Option.map_some, Option.some.injEq, Prod.mk.injEq] at this
    exact ⟨Try.underlying22, by omega, i, _, hi, this.1, this.2.1, this.2.2, rfl⟩
/-- a step may stand in a table: from an address on -/
def okStp (next hi : Int) (s : Stp) : Prop := next ≤ s.addr ∧ s.addr < hi ∧ 0 ≤ s.off ∧ s.off ≤ 4096
def okStps (next hi : Int) : List Stp → Prop
  | [] => True
  | s :: l => okStp next hi s ∧ okStps (s.addr + 1) hi l
def okObj (o : Obj) : Prop := 0 ≤ o.ctx ∧ o.ctx ≤ 255 ∧ 0 ≤ o.var ∧ o.var < 24 ∧ 0 ≤ o.slot ∧ o.slot ≤ 4096 ∧ 1 ≤ o.words ∧ o.words ≤ 8
def objName (o : Obj) : Int × Int := (o.ctx, o.var)
/-- objects may stand in a table: right ones, no name twice -/
def okObjs (l : List Obj) : Prop := (∀ o ∈ l, okObj o) ∧ (l.map objName).Nodup
def okF (was : Int) (t : FTab) : Prop := was ≤ t.lo ∧ t.lo ≤ 1048576 ∧ t.lo ≤ t.hi ∧ t.hi ≤ 1048576
def okFs (was : Int) : List FTab → Prop
  | [] => True
  | t :: l => okF was t ∧ okStps t.lo t.hi t.steps ∧ okObjs t.objs ∧ okFs t.hi l
def itemsN (l : List FTab) : Nat := (l.map fun t => t.steps.length + t.objs.length).sum
/-- tables may be encoded -/
def RightF (l : List FTab) : Prop := l.length ≤ 8 ∧ okFs 0 l ∧ itemsN l ≤ 8000
structure FTab.I (t : FTab) : Prop where
  lo : -9223372036854775808 ≤ t.lo ∧ t.lo ≤ 9223372036854775807
  hi : -9223372036854775808 ≤ t.hi ∧ t.hi ≤ 9223372036854775807
  steps : t.steps.length ≤ 9223372036854775807
  objs : t.objs.length ≤ 9223372036854775807
end Go.Proofs.Ytokmbdeafjmcjaa
