/- Location lists: words in memory, what may be encoded. -/
import Derived.Test.YtokmbdeafjmcjaaCfA
namespace Go.Proofs.Ytokmbdeafjmcjaa
open Go.RowKit
set_option linter.unusedVariables false

structure Plc where
  kind : Int
  n : Int
  add : Int
def plcCells (p : Plc) : List Value := [.int .i64 p.kind, .int .i64 p.n, .int .i64 p.add]
structure Rng where
  ctx : Int
  var : Int
  piece : Int
  lo : Int
  hi : Int
  places : List Plc
def rngCells (z : Rng × Value) : List Value := [.int .i64 z.1.ctx, .int .i64 z.1.var, .int .i64 z.1.piece, .int .i64 z.1.lo, .int .i64 z.1.hi, z.2]
structure PTab where
  lo : Int
  hi : Int
  ranges : List Rng
def ptabCells (z : PTab × Value) : List Value := [.int .i64 z.1.lo, .int .i64 z.1.hi, z.2]
/-! rows of rows: every element has a value, which has a meaning of its own -/
def Nest {α β : Type} (p : β → α) (f : β → List Value) (M : World → β → Prop) (w : World) (v : Value) (l : List α) : Prop := ∃ zs : List β, zs.map p = l ∧ InR f w v zs ∧ ∀ z ∈ zs, M w z
theorem Nest.form {α β : Type} {p : β → α} {f : β → List Value} {M : World → β → Prop} {w : World} {v : Value} {l : List α} (h : Nest p f M w v l) : ∃ A c, v = .slice A l.length c := by
  obtain ⟨zs, rfl, ⟨A, c, rfl, _⟩, _⟩ := h
  exact ⟨A, c, by simp⟩
theorem Nest.ext {α β : Type} {p : β → α} {f : β → List Value} {M : World → β → Prop} {w w' : World} {v : Value} {l : List α} (h : Nest p f M w v l) (he : Ext w w') (hm : ∀ z, M w z → M w' z) : Nest p f M w' v l := by
  obtain ⟨zs, h1, h2, h3⟩ := h
  exact ⟨zs, h1, h2.ext he, fun z hz => hm z (h3 z hz)⟩
theorem Nest.at_ {α β : Type} {p : β → α} {f : β → List Value} {M : World → β → Prop} {k : Nat} (hf : ∀ z, (f z).length = k) (h0 : 0 < k) {w : World} {A : Option Addr} {n c : Nat} {l : List α} (h : Nest p f M w (.slice A n c) l) {j : Nat} (hj : j < l.length) :
    ∃ b off z, A = some ⟨b, off, none⟩ ∧ p z = l[j] ∧ w.rangeAt b (off + j * k) (f z) ∧ M w z := by
  obtain ⟨zs, rfl, h2, h3⟩ := h
  have hj' : j < zs.length := by simpa using hj
  obtain ⟨b, off, rfl, hr⟩ := h2.at_ (k := k) (fun z hz => hf z) h0 hj'
  exact ⟨b, off, zs[j], rfl, by simp, hr, h3 zs[j] (List.getElem_mem hj')⟩
def RngsIn (w : World) (v : Value) (l : List Rng) : Prop := Nest Prod.fst rngCells (fun w z => InR plcCells w z.2 z.1.places) w v l
def PTabs (w : World) (v : Value) (l : List PTab) : Prop := Nest Prod.fst ptabCells (fun w z => RngsIn w z.2 z.1.ranges) w v l
theorem RngsIn.ext {w w' : World} {v : Value} {l : List Rng} (h : RngsIn w v l) (he : Ext w w') : RngsIn w' v l := Nest.ext h he fun z hz => InR.ext hz he
theorem PTabs.ext {w w' : World} {v : Value} {l : List PTab} (h : PTabs w v l) (he : Ext w w') : PTabs w' v l := Nest.ext h he fun z hz => RngsIn.ext hz he
theorem RngsIn.at_ {w : World} {A : Option Addr} {n c : Nat} {l : List Rng} (h : RngsIn w (.slice A n c) l) {j : Nat} (hj : j < l.length) :
    ∃ b off y, A = some ⟨b, off, none⟩ ∧ w.rangeAt b (off + j * 6) (rngCells (l[j], y)) ∧ InR plcCells w y l[j].places := by
  obtain ⟨b, off, ⟨r, y⟩, h1, h2, h3, h4⟩ := Nest.at_ (k := 6) (fun z => rfl) (by omega) h hj
  dsimp only at h2 h4
  subst h2
  exact ⟨b, off, y, h1, h3, h4⟩
theorem PTabs.at_ {w : World} {A : Option Addr} {n c : Nat} {l : List PTab} (h : PTabs w (.slice A n c) l) {j : Nat} (hj : j < l.length) :
    ∃ b off y, A = some ⟨b, off, none⟩ ∧ w.rangeAt b (off + j * 3) (ptabCells (l[j], y)) ∧ RngsIn w y l[j].ranges := by
  obtain ⟨b, off, ⟨t, y⟩, h1, h2, h3, h4⟩ := Nest.at_ (k := 3) (fun z => rfl) (by omega) h hj
  dsimp only at h2 h4
  subst h2
  exact ⟨b, off, y, h1, h3, h4⟩
/-- of the call's own -/
def RngsOwn (base : Nat) (w : World) (v : Value) (l : List Rng) : Prop := ∃ zs : List (Rng × Value), zs.map Prod.fst = l ∧ OwnR rngCells 6 69 base w v zs ∧ ∀ z ∈ zs, OwnR plcCells 3 75 base w z.2 z.1.places
def POwn (base : Nat) (w : World) (v : Value) (l : List PTab) : Prop := ∃ zs : List (PTab × Value), zs.map Prod.fst = l ∧ OwnR ptabCells 3 66 base w v zs ∧ ∀ z ∈ zs, RngsOwn base w z.2 z.1.ranges
section
variable {base base' : Nat} {w w' : World} {v : Value}
theorem RngsOwn.in_ {l : List Rng} (h : RngsOwn base w v l) : RngsIn w v l := by
  obtain ⟨zs, h1, h2, h3⟩ := h
  exact ⟨zs, h1, h2.inR, fun z hz => (h3 z hz).inR⟩
theorem POwn.in_ {l : List PTab} (h : POwn base w v l) : PTabs w v l := by
  obtain ⟨zs, h1, h2, h3⟩ := h
  exact ⟨zs, h1, h2.inR, fun z hz => (h3 z hz).in_⟩
theorem RngsOwn.ext {l : List Rng} (h : RngsOwn base w v l) (he : Ext w w') : RngsOwn base w' v l := by
  obtain ⟨zs, h1, h2, h3⟩ := h
  exact ⟨zs, h1, h2.ext he, fun z hz => (h3 z hz).ext he⟩
theorem POwn.ext {l : List PTab} (h : POwn base w v l) (he : Ext w w') : POwn base w' v l := by
  obtain ⟨zs, h1, h2, h3⟩ := h
  exact ⟨zs, h1, h2.ext he, fun z hz => (h3 z hz).ext he⟩
theorem RngsOwn.low {l : List Rng} (h : RngsOwn base w v l) (hb : base' ≤ base) : RngsOwn base' w v l := by
  obtain ⟨zs, h1, h2, h3⟩ := h
  exact ⟨zs, h1, h2.low hb, fun z hz => (h3 z hz).low hb⟩
theorem POwn.low {l : List PTab} (h : POwn base w v l) (hb : base' ≤ base) : POwn base' w v l := by
  obtain ⟨zs, h1, h2, h3⟩ := h
  exact ⟨zs, h1, h2.low hb, fun z hz => (h3 z hz).low hb⟩
theorem RngsOwn.nil (base : Nat) (w : World) : RngsOwn base w (.slice none 0 0) [] := ⟨[], rfl, OwnR.nil w, by simp⟩
theorem POwn.nil (base : Nat) (w : World) : POwn base w (.slice none 0 0) [] := ⟨[], rfl, OwnR.nil w, by simp⟩
theorem plc_load {b o : Nat} {p : Plc} (h : w.rangeAt b o (plcCells p)) : (Instr.loadAt 75 (.pointer (some ⟨b, o, none⟩))).run Try.prog w = .ok (.agg #[.int .i64 p.kind, .int .i64 p.n, .int .i64 p.add]) w :=
  run_loadAt_mid (P := Try.prog) w b o 75 _ _ h Try.underlying75 rfl (by kernel_rfl)
theorem rng_load {b o : Nat} {r : Rng} {y : Value} (h : w.rangeAt b o (rngCells (r, y))) : (Instr.loadAt 69 (.pointer (some ⟨b, o, none⟩))).run Try.prog w = .ok (.agg #[.int .i64 r.ctx, .int .i64 r.var, .int .i64 r.piece, .int .i64 r.lo, .int .i64 r.hi, y]) w :=
  run_loadAt_mid (P := Try.prog) w b o 69 _ _ h Try.underlying69 rfl (by kernel_rfl)
theorem ptab_load {b o : Nat} {t : PTab} {y : Value} (h : w.rangeAt b o (ptabCells (t, y))) : (Instr.loadAt 66 (.pointer (some ⟨b, o, none⟩))).run Try.prog w = .ok (.agg #[.int .i64 t.lo, .int .i64 t.hi, y]) w :=
  run_loadAt_mid (P := Try.prog) w b o 66 _ _ h Try.underlying66 rfl (by kernel_rfl)
theorem pc_size : (Try.prog.info? 75).map (·.size) = some 3 := by kernel_rfl
theorem rg_size : (Try.prog.info? 69).map (·.size) = some 6 := by kernel_rfl
theorem pl_size : (Try.prog.info? 66).map (·.size) = some 3 := by kernel_rfl
theorem blk6 {g : Nat} {a b c d e f : Value} {t : TypeId} (H : w.heap[g]? = some (.cells #[a, b, c, d, e, f] t (0, 0))) :
    w.cell? ⟨g, 0, none⟩ = some a ∧ w.cell? ⟨g, 1, none⟩ = some b ∧ w.cell? ⟨g, 2, none⟩ = some c ∧ w.cell? ⟨g, 3, none⟩ = some d ∧ w.cell? ⟨g, 4, none⟩ = some e ∧ w.cell? ⟨g, 5, none⟩ = some f := ⟨blk_at H 0 _ rfl, blk_at H 1 _ rfl, blk_at H 2 _ rfl, blk_at H 3 _ rfl, blk_at H 4 _ rfl, blk_at H 5 _ rfl⟩
end
theorem pc_info : (Try.prog.info? 75).map (fun i => (i.zero, i.size, i.bytes)) = some (some (.agg #[.int .i64 0, .int .i64 0, .int .i64 0]), 3, 24) := by kernel_rfl
theorem elem_pc : ElemN Try.prog 67 75 3 24 := by
  rcases hi : Try.prog.info? 75 with _ | i
  · have := pc_info; rw [hi] at this; cases this
  · have := pc_info
    rw [hi] at this
    simp only [Option.map_some, Option.some.injEq, Prod.mk.injEq] at this
    exact ⟨Try.underlying67, by omega, i, _, hi, this.1, this.2.1, this.2.2, rfl⟩
theorem rg_info : (Try.prog.info? 69).map (fun i => (i.zero, i.size, i.bytes)) = some (some (.agg #[.int .i64 0, .int .i64 0, .int .i64 0, .int .i64 0, .int .i64 0, .slice none 0 0]), 6, 64) := by kernel_rfl
theorem elem_rg : ElemN Try.prog 64 69 6 64 := by
  rcases hi : Try.prog.info? 69 with _ | i
  · have := rg_info; rw [hi] at this; cases this
  · have := rg_info
    rw [hi] at this
    simp only [Option.map_some, Option.some.injEq, Prod.mk.injEq] at this
    exact ⟨Try.underlying64, by omega, i, _, hi, this.1, this.2.1, this.2.2, rfl⟩
theorem pl_info : (Try.prog.info? 66).map (fun i => (i.zero, i.size, i.bytes)) = some (some (.agg #[.int .i64 0, .int .i64 0, .slice none 0 0]), 3, 40) := by kernel_rfl
theorem elem_pl : ElemN Try.prog 63 66 3 40 := by
  rcases hi : Try.prog.info? 66 with _ | i
  · have := pl_info; rw [hi] at this; cases this
  · have := pl_info
    rw [hi] at this
    simp only [Option.map_some, Option.some.injEq, Prod.mk.injEq] at this
    exact ⟨Try.underlying63, by omega, i, _, hi, this.1, this.2.1, this.2.2, rfl⟩
/-! what may be encoded -/
def okPlc (p : Plc) : Prop := (p.kind = 1 ∧ p.n = 0) ∨ ((p.kind = 2 ∨ p.kind = 4) ∧ 0 ≤ p.n ∧ p.n ≤ 15) ∨ (p.kind = 3 ∧ 0 ≤ p.n ∧ p.n ≤ 4095)
def okNum (lo hi : Int) (r : Rng) : Prop := lo ≤ r.lo ∧ r.lo < r.hi ∧ r.hi ≤ hi ∧ 0 ≤ r.ctx ∧ r.ctx ≤ 255 ∧ 0 ≤ r.var ∧ r.var < 24 ∧ 0 ≤ r.piece ∧ r.piece < 4
def okPl (r : Rng) : Prop := 1 ≤ r.places.length ∧ r.places.length ≤ 40 ∧ ∀ p ∈ r.places, okPlc p
/-- one range stands ahead of another -/
def ltK (a b : Rng) : Prop := a.lo < b.lo ∨ (a.lo = b.lo ∧ (a.ctx < b.ctx ∨ (a.ctx = b.ctx ∧ (a.var < b.var ∨ (a.var = b.var ∧ a.piece < b.piece)))))
def pcOf (r : Rng) : Int × Int × Int := (r.ctx, r.var, r.piece)
/-- where the latest range of a piece ends -/
def endOf (pre : List Rng) (k : Int × Int × Int) : Option Int := ((pre.filter fun r => decide (pcOf r = k)).getLast?).map Rng.hi
theorem endOf_nil (k : Int × Int × Int) : endOf [] k = none := rfl
theorem endOf_snoc (pre : List Rng) (r : Rng) (k : Int × Int × Int) : endOf (pre ++ [r]) k = if pcOf r = k then some r.hi else endOf pre k := by
  unfold endOf
  rw [List.filter_append]
  by_cases h : pcOf r = k
  · simp [h]
  · simp [h]
/-- a range may stand behind others -/
def okAt (lo hi : Int) (pre : List Rng) (r : Rng) : Prop := okNum lo hi r ∧ okPl r ∧ (∀ p, pre.getLast? = some p → ltK p r) ∧ (∀ e, endOf pre (pcOf r) = some e → e ≤ r.lo)
def okRngs (lo hi : Int) (l : List Rng) : Prop := ∀ i (h : i < l.length), okAt lo hi (l.take i) l[i]
theorem okRngs_take_zero (lo hi : Int) (l : List Rng) : ∀ i (h : i < l.length), i < 0 → okAt lo hi (l.take i) l[i] := fun _ _ h => absurd h (by omega)
def okP (was : Int) (t : PTab) : Prop := was ≤ t.lo ∧ t.lo ≤ 1048576 ∧ t.lo ≤ t.hi ∧ t.hi ≤ 1048576
def okPs (was : Int) : List PTab → Prop
  | [] => True
  | t :: l => okP was t ∧ okRngs t.lo t.hi t.ranges ∧ okPs t.hi l
def rngsN (l : List PTab) : Nat := (l.map fun t => t.ranges.length).sum
/-- lists may be encoded -/
def RightP (l : List PTab) : Prop := l.length ≤ 8 ∧ okPs 0 l ∧ rngsN l ≤ 8000
structure PTab.I (t : PTab) : Prop where
  lo : -9223372036854775808 ≤ t.lo ∧ t.lo ≤ 9223372036854775807
  hi : -9223372036854775808 ≤ t.hi ∧ t.hi ≤ 9223372036854775807
  len : t.ranges.length ≤ 9223372036854775807
  places : ∀ r ∈ t.ranges, r.places.length ≤ 9223372036854775807
end Go.Proofs.Ytokmbdeafjmcjaa
