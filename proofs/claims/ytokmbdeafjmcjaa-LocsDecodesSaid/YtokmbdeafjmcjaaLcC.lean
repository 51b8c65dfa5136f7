/- Location lists: words in memory, what may be encoded. -/
import Derived.Test.YtokmbdeafjmcjaaCfA
import Derived.Test.YtokmbdeafjmcjaaCfM
import Derived.DeepKeys4
namespace Go.Proofs.Ytokmbdeafjmcjaa
open Go.RowKit
set_option linter.unusedVariables false

structure Plc where
  kind : Int
  n : Int
  add : Int
def plcCells (p : Plc) : List Value := [.int .i64 p.kind, .int .i64 p.n, .int .i64 p.add]
structure Rng where
  ctx : Int
  var : Int
  piece : Int
  lo : Int
  hi : Int
  places : List Plc
def rngCells (z : Rng × Value) : List Value := [.int .i64 z.1.ctx, .int .i64 z.1.var, .int .i64 z.1.piece, .int .i64 z.1.lo, .int .i64 z.1.hi, z.2]
structure PTab where
  lo : Int
  hi : Int
  ranges : List Rng
def ptabCells (z : PTab × Value) : List Value := [.int .i64 z.1.lo, .int .i64 z.1.hi, z.2]
/-! rows of rows: every element has a value, which has a meaning of its own -/
def Nest {α β : Type} (p : β → α) (f : β → List Value) (M : World → β → Prop) (w : World) (v : Value) (l : List α) : Prop := ∃ zs : List β, zs.map p = l ∧ InR f w v zs ∧ ∀ z ∈ zs, M w z
theorem Nest.form {α β : Type} {p : β → α} {f : β → List Value} {M : World → β → Prop} {w : World} {v : Value} {l : List α} (h : Nest p f M w v l) : ∃ A c, v = .slice A l.length c := by
  obtain ⟨zs, rfl, ⟨A, c, rfl, _⟩, _⟩ := h
  exact ⟨A, c, by simp⟩
theorem Nest.ext {α β : Type} {p : β → α} {f : β → List Value} {M : World → β → Prop} {w w' : World} {v : Value} {l : List α} (h : Nest p f M w v l) (he : Ext w w') (hm : ∀ z, M w z → M w' z) : Nest p f M w' v l := by
  obtain ⟨zs, h1, h2, h3⟩ := h
  exact ⟨zs, h1, h2.ext he, fun z hz => hm z (h3 z hz)⟩
theorem Nest.at_ {α β : Type} {p : β → α} {f : β → List Value} {M : World → β → Prop} {k : Nat} (hf : ∀ z, (f z).length = k) (h0 : 0 < k) {w : World} {A : Option Addr} {n c : Nat} {l : List α} (h : Nest p f M w (.slice A n c) l) {j : Nat} (hj : j < l.length) :
    ∃ b off z, A = some ⟨b, off, none⟩ ∧ p z = l[j] ∧ w.rangeAt b (off + j * k) (f z) ∧ M w z := by
  obtain ⟨zs, rfl, h2, h3⟩ := h
  have hj' : j < zs.length := by simpa using hj
  obtain ⟨b, off, rfl, hr⟩ := h2.at_ (k := k) (fun z hz => hf z) h0 hj'
  exact ⟨b, off, zs[j], rfl, by simp, hr, h3 zs[j] (List.getElem_mem hj')⟩
def RngsIn (w : World) (v : Value) (l : List Rng) : Prop := Nest Prod.fst rngCells (fun w z => InR plcCells w z.2 z.1.places) w v l
def PTabs (w : World) (v : Value) (l : List PTab) : Prop := Nest Prod.fst ptabCells (fun w z => RngsIn w z.2 z.1.ranges) w v l
theorem RngsIn.ext {w w' : World} {v : Value} {l : List Rng} (h : RngsIn w v l) (he : Ext w w') : RngsIn w' v l := Nest.ext h he fun z hz => InR.ext hz he
theorem PTabs.ext {w w' : World} {v : Value} {l : List PTab} (h : PTabs w v l) (he : Ext w w') : PTabs w' v l := Nest.ext h he fun z hz => RngsIn.ext hz he
theorem RngsIn.at_ {w : World} {A : Option Addr} {n c : Nat} {l : List Rng} (h : RngsIn w (.slice A n c) l) {j : Nat} (hj : j < l.length) :
    ∃ b off y, A = some ⟨b, off, none⟩ ∧ w.rangeAt b (off + j * 6) (rngCells (l[j], y)) ∧ InR plcCells w y l[j].places := by
  obtain ⟨b, off, ⟨r, y⟩, h1, h2, h3, h4⟩ := Nest.at_ (k := 6) (fun z => rfl) (by omega) h hj
  dsimp only at h2 h4
  subst h2
  exact ⟨b, off, y, h1, h3, h4⟩
theorem PTabs.at_ {w : World} {A : Option Addr} {n c : Nat} {l : List PTab} (h : PTabs w (.slice A n c) l) {j : Nat} (hj : j < l.length) :
    ∃ b off y, A = some ⟨b, off, none⟩ ∧ w.rangeAt b (off + j * 3) (ptabCells (l[j], y)) ∧ RngsIn w y l[j].ranges := by
  obtain ⟨b, off, ⟨t, y⟩, h1, h2, h3, h4⟩ := Nest.at_ (k := 3) (fun z => rfl) (by omega) h hj
  dsimp only at h2 h4
  subst h2
  exact ⟨b, off, y, h1, h3, h4⟩
/-- of the call's own -/
def RngsOwn (base : Nat) (w : World) (v : Value) (l : List Rng) : Prop := ∃ zs : List (Rng × Value), zs.map Prod.fst = l ∧ OwnR rngCells 6 69 base w v zs ∧ ∀ z ∈ zs, OwnR plcCells 3 75 base w z.2 z.1.places
def POwn (base : Nat) (w : World) (v : Value) (l : List PTab) : Prop := ∃ zs : List (PTab × Value), zs.map Prod.fst = l ∧ OwnR ptabCells 3 66 base w v zs ∧ ∀ z ∈ zs, RngsOwn base w z.2 z.1.ranges
section
variable {base base' : Nat} {w w' : World} {v : Value}
theorem RngsOwn.in_ {l : List Rng} (h : RngsOwn base w v l) : RngsIn w v l := by
  obtain ⟨zs, h1, h2, h3⟩ := h
  exact ⟨zs, h1, h2.inR, fun z hz => (h3 z hz).inR⟩
theorem POwn.in_ {l : List PTab} (h : POwn base w v l) : PTabs w v l := by
  obtain ⟨zs, h1, h2, h3⟩ := h
  exact ⟨zs, h1, h2.inR, fun z hz => (h3 z hz).in_⟩
theorem RngsOwn.ext {l : List Rng} (h : RngsOwn base w v l) (he : Ext w w') : RngsOwn base w' v l := by
  obtain ⟨zs, h1, h2, h3⟩ := h
  exact ⟨zs, h1, h2.ext he, fun z hz => (h3 z hz).ext he⟩
theorem POwn.ext {l : List PTab} (h : POwn base w v l) (he : Ext w w') : POwn base w' v l := by
  obtain ⟨zs, h1, h2, h3⟩ := h
  exact ⟨zs, h1, h2.ext he, fun z hz => (h3 z hz).ext he⟩
theorem RngsOwn.low {l : List Rng} (h : RngsOwn base w v l) (hb : base' ≤ base) : RngsOwn base' w v l := by
  obtain ⟨zs, h1, h2, h3⟩ := h
  exact ⟨zs, h1, h2.low hb, fun z hz => (h3 z hz).low hb⟩
theorem POwn.low {l : List PTab} (h : POwn base w v l) (hb : base' ≤ base) : POwn base' w v l := by
  obtain ⟨zs, h1, h2, h3⟩ := h
  exact ⟨zs, h1, h2.low hb, fun z hz => (h3 z hz).low hb⟩
theorem RngsOwn.nil (base : Nat) (w : World) : RngsOwn base w (.slice none 0 0) [] := ⟨[], rfl, OwnR.nil w, by simp⟩
theorem POwn.nil (base : Nat) (w : World) : POwn base w (.slice none 0 0) [] := ⟨[], rfl, OwnR.nil w, by simp⟩
theorem plc_load {b o : Nat} {p : Plc} (h : w.rangeAt b o (plcCells p)) : (Instr.loadAt 75 (.pointer (some ⟨b, o, none⟩))).run Try.prog w = .ok (.agg #[.int .i64 p.kind, .int .i64 p.n, .int .i64 p.add]) w :=
  run_loadAt_mid (P := Try.prog) w b o 75 _ _ h Try.underlying75 rfl (by kernel_rfl)
theorem rng_load {b o : Nat} {r : Rng} {y : Value} (h : w.rangeAt b o (rngCells (r, y))) : (Instr.loadAt 69 (.pointer (some ⟨b, o, none⟩))).run Try.prog w = .ok (.agg #[.int .i64 r.ctx, .int .i64 r.var, .int .i64 r.piece, .int .i64 r.lo, .int .i64 r.hi, y]) w :=
  run_loadAt_mid (P := Try.prog) w b o 69 _ _ h Try.underlying69 rfl (by kernel_rfl)
theorem ptab_load {b o : Nat} {t : PTab} {y : Value} (h : w.rangeAt b o (ptabCells (t, y))) : (Instr.loadAt 66 (.pointer (some ⟨b, o, none⟩))).run Try.prog w = .ok (.agg #[.int .i64 t.lo, .int .i64 t.hi, y]) w :=
  run_loadAt_mid (P := Try.prog) w b o 66 _ _ h Try.underlying66 rfl (by kernel_rfl)
theorem pc_size : (Try.prog.info? 75).map (·.size) = some 3 := by kernel_rfl
theorem rg_size : (Try.prog.info? 69).map (·.size) = some 6 := by kernel_rfl
theorem pl_size : (Try.prog.info? 66).map (·.size) = some 3 := by kernel_rfl
theorem blk6 {g : Nat} {a b c d e f : Value} {t : TypeId} (H : w.heap[g]? = some (.cells #[a, b, c, d, e, f] t (0, 0))) :
    w.cell? ⟨g, 0, none⟩ = some a ∧ w.cell? ⟨g, 1, none⟩ = some b ∧ w.cell? ⟨g, 2, none⟩ = some c ∧ w.cell? ⟨g, 3, none⟩ = some d ∧ w.cell? ⟨g, 4, none⟩ = some e ∧ w.cell? ⟨g, 5, none⟩ = some f := ⟨blk_at H 0 _ rfl, blk_at H 1 _ rfl, blk_at H 2 _ rfl, blk_at H 3 _ rfl, blk_at H 4 _ rfl, blk_at H 5 _ rfl⟩
end
theorem pc_info : (Try.prog.info? 75).map (fun i => (i.zero, i.size, i.bytes)) = some (some (.agg #[.int .i64 0, .int .i64 0, .int .i64 0]), 3, 24) := by kernel_rfl
theorem elem_pc : ElemN Try.prog 67 75 3 24 := by
  rcases hi : Try.prog.info? 75 with _ | i
  · have := pc_info; rw [hi] at this; cases this
  · have := pc_info
    rw [hi] at this
    simp only [Option.map_some, Option.some.injEq, Prod.mk.injEq] at this
    exact ⟨Try.underlying67, by omega, i, _, hi, this.1, this.2.1, this.2.2, rfl⟩
theorem rg_info : (Try.prog.info? 69).map (fun i => (i.zero, i.size, i.bytes)) = some (some (.agg #[.int .i64 0, .int .i64 0, .int .i64 0, .int .i64 0, .int .i64 0, .slice none 0 0]), 6, 64) := by kernel_rfl
theorem elem_rg : ElemN Try.prog 64 69 6 64 := by
  rcases hi : Try.prog.info? 69 with _ | i
  · have := rg_info; rw [hi] at this; cases this
  · have := rg_info
    rw [hi] at this
    simp only [Option.map_some, Option.some.injEq, Prod.mk.injEq] at this
    exact ⟨Try.underlying64, by omega, i, _, hi, this.1, this.2.1, this.2.2, rfl⟩
theorem pl_info : (Try.prog.info? 66).map (fun i => (i.zero, i.size, i.bytes)) = some (some (.agg #[.int .i64 0, .int .i64 0, .slice none 0 0]), 3, 40) := by kernel_rfl
theorem elem_pl : ElemN Try.prog 63 66 3 40 := by
  rcases hi : Try.prog.info? 66 with _ | i
  · have := pl_info; rw [hi] at this; cases this
  · have := pl_info
    rw [hi] at this
    simp only [Option.map_some, Option.some.injEq, Prod.mk.injEq] at this
    exact ⟨Try.underlying63, by omega, i, _, hi, this.1, this.2.1, this.2.2, rfl⟩
/-! what may be encoded -/
def okPlc (p : Plc) : Prop := (p.kind = 1 ∧ p.n = 0) ∨ ((p.kind = 2 ∨ p.kind = 4) ∧ 0 ≤ p.n ∧ p.n ≤ 15) ∨ (p.kind = 3 ∧ 0 ≤ p.n ∧ p.n ≤ 4095)
def okNum (lo hi : Int) (r : Rng) : Prop := lo ≤ r.lo ∧ r.lo < r.hi ∧ r.hi ≤ hi ∧ 0 ≤ r.ctx ∧ r.ctx ≤ 255 ∧ 0 ≤ r.var ∧ r.var < 24 ∧ 0 ≤ r.piece ∧ r.piece < 4
def okPl (r : Rng) : Prop := 1 ≤ r.places.length ∧ r.places.length ≤ 40 ∧ ∀ p ∈ r.places, okPlc p
/-- one range stands ahead of another -/
def ltK (a b : Rng) : Prop := a.lo < b.lo ∨ (a.lo = b.lo ∧ (a.ctx < b.ctx ∨ (a.ctx = b.ctx ∧ (a.var < b.var ∨ (a.var = b.var ∧ a.piece < b.piece)))))
def pcOf (r : Rng) : Int × Int × Int := (r.ctx, r.var, r.piece)
/-- where the latest range of a piece ends -/
def endOf (pre : List Rng) (k : Int × Int × Int) : Option Int := ((pre.filter fun r => decide (pcOf r = k)).getLast?).map Rng.hi
theorem endOf_nil (k : Int × Int × Int) : endOf [] k = none := rfl
theorem endOf_snoc (pre : List Rng) (r : Rng) (k : Int × Int × Int) : endOf (pre ++ [r]) k = if pcOf r = k then some r.hi else endOf pre k := by
  unfold endOf
  rw [List.filter_append]
  by_cases h : pcOf r = k
  · simp [h]
  · simp [h]
/-- a range may stand behind others -/
def okAt (lo hi : Int) (pre : List Rng) (r : Rng) : Prop := okNum lo hi r ∧ okPl r ∧ (∀ p, pre.getLast? = some p → ltK p r) ∧ (∀ e, endOf pre (pcOf r) = some e → e ≤ r.lo)
def okRngs (lo hi : Int) (l : List Rng) : Prop := ∀ i (h : i < l.length), okAt lo hi (l.take i) l[i]
theorem okRngs_take_zero (lo hi : Int) (l : List Rng) : ∀ i (h : i < l.length), i < 0 → okAt lo hi (l.take i) l[i] := fun _ _ h => absurd h (by omega)
def okP (was : Int) (t : PTab) : Prop := was ≤ t.lo ∧ t.lo ≤ 1048576 ∧ t.lo ≤ t.hi ∧ t.hi ≤ 1048576
def okPs (was : Int) : List PTab → Prop
  | [] => True
  | t :: l => okP was t ∧ okRngs t.lo t.hi t.ranges ∧ okPs t.hi l
def rngsN (l : List PTab) : Nat := (l.map fun t => t.ranges.length).sum
/-- lists may be encoded -/
def RightP (l : List PTab) : Prop := l.length ≤ 8 ∧ okPs 0 l ∧ rngsN l ≤ 8000
structure PTab.I (t : PTab) : Prop where
  lo : -9223372036854775808 ≤ t.lo ∧ t.lo ≤ 9223372036854775807
  hi : -9223372036854775808 ≤ t.hi ∧ t.hi ≤ 9223372036854775807
  len : t.ranges.length ≤ 9223372036854775807
  places : ∀ r ∈ t.ranges, r.places.length ≤ 9223372036854775807
end Go.Proofs.Ytokmbdeafjmcjaa
/- Small functions of package locs: places, comparisons, pieces. -/
namespace Go.Proofs.Ytokmbdeafjmcjaa
open Go.RowKit
set_option linter.unusedVariables false
set_option linter.unusedSimpArgs false

def IffB (b : Bool) (P : Prop) : Prop := b = false ↔ P
def IffI (i : Int) (P : Prop) : Prop := ¬ 0 ≤ i ↔ P
def WrongPost (P : Prop) (w : World) (en : Ending) (w' : World) : Prop := ∃ b : Bool, en = .returned (.bool b) ∧ IffB b P ∧ Ext w w'
set_option maxHeartbeats 4000000 in
set_option maxRecDepth 100000 in
theorem wrongPlace_any (p : Plc) (w : World) : Calls Try.prog 93 #[.agg #[.int .i64 p.kind, .int .i64 p.n, .int .i64 p.add]] w (WrongPost (okPlc p) w) := by
  go_enter Try.func93, Try.ntmps93
  go_upto_region 1 with fail
  obtain ⟨W, hW, hE, hB⟩ : ∃ W, W = w.alloc (.cells #[.int .i64 p.kind, .int .i64 p.n, .int .i64 p.add] 75) ∧ Ext w W ∧ W.heap[w.heap.size]? = some (.cells #[.int .i64 p.kind, .int .i64 p.n, .int .i64 p.add] 75 (0, 0)) := ⟨_, rfl, (Ext.refl w).alloc _, heap_alloc_new w _⟩
  rw [← hW]
  clear hW
  obtain ⟨q0, q1, q2⟩ := blkT hB
  obtain ⟨K, hK⟩ : ∃ K, K = p.kind := ⟨_, rfl⟩
  rw [← hK] at q0
  have HK := Lib.hid hK
  clear hK
  by_cases h1 : K = 1
  case pos =>
    have e1 : (K == 1) = true := by simpa using h1
    have HP : Hid (IffB (p.n != 0) (okPlc p)) := Lib.hid (by have := HK.out; unfold IffB okPlc; simp only [bne_eq_false_iff_eq]; omega)
    clear h1
    go_wp2_with fail
    refine bodyPost_ret (by simp [results, Try.results93, go_sem]; rfl) rfl ?_
    exact ⟨_, rfl, HP.out, hE⟩
  have e1 : (K == 1) = false := by simpa using h1
  have HR : Hid ((K = 2 ∨ K = 4) → ((0 ≤ p.n ∧ p.n ≤ 15) ↔ okPlc p)) := Lib.hid (fun h => by have := HK.out; unfold okPlc; omega)
  have H3 : Hid (K = 3 → ((0 ≤ p.n ∧ p.n ≤ 4095) ↔ okPlc p)) := Lib.hid (fun h => by have := HK.out; unfold okPlc; omega)
  have HN : Hid (¬ (K = 2 ∨ K = 4) → ¬ K = 3 → ¬ okPlc p) := Lib.hid (fun h h' => by have := HK.out; unfold okPlc; omega)
  clear h1
  by_cases h2 : K = 2
  case pos =>
    have e2 : (K == 2) = true := by simpa using h2
    have HQ := Lib.hid (HR.out (.inl h2))
    clear h2
    by_cases n1 : p.n < 0
    case pos =>
      have d1 : decide (p.n < 0) = true := by simpa using n1
      have HP : Hid (IffB true (okPlc p)) := Lib.hid ⟨fun h => (by cases h), fun h => by have := HQ.out.2 h; omega⟩
      go_wp2_with fail
      refine bodyPost_ret (by simp [results, Try.results93, go_sem]; rfl) rfl ?_
      exact ⟨true, rfl, HP.out, hE⟩
    have d1 : decide (p.n < 0) = false := by simpa using n1
    by_cases n2 : 16 ≤ p.n
    case pos =>
      have d2 : decide (16 ≤ p.n) = true := by simpa using n2
      have HP : Hid (IffB true (okPlc p)) := Lib.hid ⟨fun h => (by cases h), fun h => by have := HQ.out.2 h; omega⟩
      go_wp2_with fail
      refine bodyPost_ret (by simp [results, Try.results93, go_sem]; rfl) rfl ?_
      exact ⟨true, rfl, HP.out, hE⟩
    have d2 : decide (16 ≤ p.n) = false := by simpa using n2
    have HP : Hid (IffB false (okPlc p)) := Lib.hid ⟨fun _ => HQ.out.1 (by omega), fun _ => rfl⟩
    go_wp2_with fail
    refine bodyPost_ret (by simp [results, Try.results93, go_sem]; rfl) rfl ?_
    exact ⟨false, rfl, HP.out, hE⟩
  have e2 : (K == 2) = false := by simpa using h2
  by_cases h4 : K = 4
  case pos =>
    have e4 : (K == 4) = true := by simpa using h4
    have HQ := Lib.hid (HR.out (.inr h4))
    clear h4 h2
    by_cases n1 : p.n < 0
    case pos =>
      have d1 : decide (p.n < 0) = true := by simpa using n1
      have HP : Hid (IffB true (okPlc p)) := Lib.hid ⟨fun h => (by cases h), fun h => by have := HQ.out.2 h; omega⟩
      go_wp2_with fail
      refine bodyPost_ret (by simp [results, Try.results93, go_sem]; rfl) rfl ?_
      exact ⟨true, rfl, HP.out, hE⟩
    have d1 : decide (p.n < 0) = false := by simpa using n1
    by_cases n2 : 16 ≤ p.n
    case pos =>
      have d2 : decide (16 ≤ p.n) = true := by simpa using n2
      have HP : Hid (IffB true (okPlc p)) := Lib.hid ⟨fun h => (by cases h), fun h => by have := HQ.out.2 h; omega⟩
      go_wp2_with fail
      refine bodyPost_ret (by simp [results, Try.results93, go_sem]; rfl) rfl ?_
      exact ⟨true, rfl, HP.out, hE⟩
    have d2 : decide (16 ≤ p.n) = false := by simpa using n2
    have HP : Hid (IffB false (okPlc p)) := Lib.hid ⟨fun _ => HQ.out.1 (by omega), fun _ => rfl⟩
    go_wp2_with fail
    refine bodyPost_ret (by simp [results, Try.results93, go_sem]; rfl) rfl ?_
    exact ⟨false, rfl, HP.out, hE⟩
  have e4 : (K == 4) = false := by simpa using h4
  by_cases h3 : K = 3
  case pos =>
    have e3 : (K == 3) = true := by simpa using h3
    have HQ := Lib.hid (H3.out h3)
    clear h3 h2 h4
    by_cases n1 : p.n < 0
    case pos =>
      have d1 : decide (p.n < 0) = true := by simpa using n1
      have HP : Hid (IffB true (okPlc p)) := Lib.hid ⟨fun h => (by cases h), fun h => by have := HQ.out.2 h; omega⟩
      go_wp2_with fail
      refine bodyPost_ret (by simp [results, Try.results93, go_sem]; rfl) rfl ?_
      exact ⟨true, rfl, HP.out, hE⟩
    have d1 : decide (p.n < 0) = false := by simpa using n1
    by_cases n2 : 4095 < p.n
    case pos =>
      have d2 : decide (4095 < p.n) = true := by simpa using n2
      have HP : Hid (IffB true (okPlc p)) := Lib.hid ⟨fun h => (by cases h), fun h => by have := HQ.out.2 h; omega⟩
      go_wp2_with fail
      refine bodyPost_ret (by simp [results, Try.results93, go_sem]; rfl) rfl ?_
      exact ⟨true, rfl, HP.out, hE⟩
    have d2 : decide (4095 < p.n) = false := by simpa using n2
    have HP : Hid (IffB false (okPlc p)) := Lib.hid ⟨fun _ => HQ.out.1 (by omega), fun _ => rfl⟩
    go_wp2_with fail
    refine bodyPost_ret (by simp [results, Try.results93, go_sem]; rfl) rfl ?_
    exact ⟨false, rfl, HP.out, hE⟩
  have e3 : (K == 3) = false := by simpa using h3
  have HP : Hid (IffB true (okPlc p)) := Lib.hid ⟨fun h => (by cases h), fun h => absurd h (HN.out (by omega) h3)⟩
  clear h2 h3 h4
  go_wp2_with fail
  refine bodyPost_ret (by simp [results, Try.results93, go_sem]; rfl) rfl ?_
  exact ⟨true, rfl, HP.out, hE⟩
def IdxPost (l : List Plc) (w : World) (en : Ending) (w' : World) : Prop := ∃ i : Int, en = .returned (.int .i64 i) ∧ IffI i (∀ p ∈ l, okPlc p) ∧ Ext w w'
set_option maxHeartbeats 4000000 in
set_option maxRecDepth 100000 in
theorem indexWrong_any (x : Value) (l : List Plc) (w : World) (hx : InR plcCells w x l) (hl : l.length ≤ 9223372036854775807) : Calls Try.prog 109 #[x, .func (.func 93) #[] #[]] w (IdxPost l w) := by
  obtain ⟨A, c, rfl, _, _⟩ := id hx
  have HX := Lib.hid hx
  clear hx
  go_enter Try.func109, Try.ntmps109
  go_wp2_with fail
  go_loopw [8] (fun i wr => ∃ (j : Nat), j ≤ l.length ∧ i = .int .i64 (j : Int) ∧ Hid (∀ p ∈ l.take j, okPlc p) ∧ Ext w wr) (fun i _ => l.length - (intOf i).toNat)
  case atStart => exact ⟨0, by omega, rfl, Lib.hid (by simp), Ext.refl _⟩
  case round =>
    obtain ⟨j, hj, rfl, HA, hX⟩ := hrel
    obtain ⟨wo, rfl⟩ : ∃ W : World, W = wr := ⟨_, rfl⟩
    by_cases hlt : j < l.length
    · have hij : (j : Int) < (l.length : Int) := by omega
      obtain ⟨bb, oo, rfl, hra⟩ := (HX.out.ext hX).at_ (k := 3) (fun _ _ => rfl) (by omega) hlt
      have HTK := Lib.hid (List.take_succ_eq_append_getElem hlt)
      have HMM := Lib.hid (List.getElem_mem hlt)
      generalize l[j] = p at *
      have hld := plc_load hra
      go_wp2_with first | refine wpList_load_run rfl 75 (.tmp 14) rfl _ _ rfl hld ?_
      refine (wrongPlace_any p wo).mono ?_
      rintro en w2 ⟨b, rfl, hb, hx2⟩
      have hX2 := hX.trans hx2
      clear hld hra hX hx2
      cases b with
      | true =>
        have HP : Hid (IffI (j : Int) (∀ p ∈ l, okPlc p)) := Lib.hid ⟨fun h => absurd h (by omega), fun h => by have := hb.2 (h p HMM.out); cases this⟩
        clear hb
        go_wp2_with fail
        go_ret
        exact ⟨_, rfl, HP.out, hX2⟩
      | false =>
        have HN : Hid (∀ p ∈ l.take (j + 1), okPlc p) := Lib.hid (by
          rw [HTK.out]
          intro q hq
          rcases List.mem_append.1 hq with hq | hq
          · exact HA.out q hq
          · simp only [List.mem_singleton] at hq
            subst hq
            exact hb.1 rfl)
        clear hb
        go_wp2_with fail
        go_roundw
        case rel => exact ⟨j + 1, by omega, by first | (with_reducible rfl) | go_num, HN, hX2⟩
        case measure => simp [intOf]; omega
    · have hij : ¬ (j : Int) < (l.length : Int) := by omega
      have HP : Hid (IffI (-1 : Int) (∀ p ∈ l, okPlc p)) := Lib.hid ⟨fun _ => by have := HA.out; rwa [List.take_of_length_le (by omega)] at this, fun _ => by omega⟩
      go_wp2_with fail
      go_ret
      exact ⟨_, rfl, HP.out, hX⟩
set_option maxHeartbeats 4000000 in
set_option maxRecDepth 100000 in
theorem containsWrong_any (x : Value) (l : List Plc) (w : World) (hx : InR plcCells w x l) (hl : l.length ≤ 9223372036854775807) : Calls Try.prog 92 #[x, .func (.func 93) #[] #[]] w (WrongPost (∀ p ∈ l, okPlc p) w) := by
  have HX := Lib.hid hx
  clear hx
  go_enter Try.func92, Try.ntmps92
  go_wp2_with fail
  refine (indexWrong_any x l w HX.out hl).mono ?_
  rintro en w2 ⟨i, rfl, hi, hx2⟩
  by_cases h : 0 ≤ i
  · have d : decide (0 ≤ i) = true := by simpa using h
    have HP : Hid (IffB true (∀ p ∈ l, okPlc p)) := Lib.hid ⟨fun h => (by cases h), fun h2 => absurd h (hi.2 h2)⟩
    clear h hi
    go_wp2_with fail
    go_ret
    exact ⟨true, rfl, HP.out, hx2⟩
  · have d : decide (0 ≤ i) = false := by simpa using h
    have HP : Hid (IffB false (∀ p ∈ l, okPlc p)) := Lib.hid ⟨fun _ => hi.1 h, fun _ => rfl⟩
    clear h hi
    go_wp2_with fail
    go_ret
    exact ⟨false, rfl, HP.out, hx2⟩
/-! comparisons -/
def cmpI (a b : Int) : Int := if a < b then -1 else if b < a then 1 else 0
theorem isNaN_any (a : Int) (w : World) : Calls Try.prog 116 #[.int .i64 a] w fun en w' => en = .returned (.bool false) ∧ w' = w := by
  have h : (a != a) = false := by simp
  go_enter Try.func116, Try.ntmps116
  go_wp2_with fail
  go_ret
  exact ⟨rfl, rfl⟩
set_option maxRecDepth 100000 in
theorem cmpCompare_any (a b : Int) (w : World) : Calls Try.prog 111 #[.int .i64 a, .int .i64 b] w fun en w' => en = .returned (.int .i64 (cmpI a b)) ∧ w' = w := by
  go_enter Try.func111, Try.ntmps111
  go_wp2_with fail
  refine (isNaN_any a w).mono ?_
  rintro en w2 ⟨rfl, rfl⟩
  go_wp2_with fail
  refine (isNaN_any b w2).mono ?_
  rintro en w3 ⟨rfl, rfl⟩
  by_cases h1 : a < b
  · have d1 : decide (a < b) = true := by simpa using h1
    have HP : Hid (cmpI a b = -1) := Lib.hid (by unfold cmpI; rw [if_pos h1])
    clear h1
    go_wp2_with fail
    go_ret
    exact ⟨by rw [HP.out]; rfl, rfl⟩
  · have d1 : decide (a < b) = false := by simpa using h1
    by_cases h2 : b < a
    · have d2 : decide (b < a) = true := by simpa using h2
      have HP : Hid (cmpI a b = 1) := Lib.hid (by unfold cmpI; rw [if_neg h1, if_pos h2])
      clear h1 h2
      go_wp2_with fail
      go_ret
      exact ⟨by rw [HP.out]; rfl, rfl⟩
    · have d2 : decide (b < a) = false := by simpa using h2
      have HP : Hid (cmpI a b = 0) := Lib.hid (by unfold cmpI; rw [if_neg h1, if_neg h2])
      clear h1 h2
      go_wp2_with fail
      go_ret
      exact ⟨by rw [HP.out]; rfl, rfl⟩
/-- the first number that is not zero -/
def orI : List Int → Int
  | [] => 0
  | v :: l => if v = 0 then orI l else v
set_option maxRecDepth 100000 in
theorem cmpOr_any (x : Value) (vs : List Int) (w : World) (hx : InI w x vs) (hl : vs.length ≤ 1000) : Calls Try.prog 110 #[x] w fun en w' => en = .returned (.int .i64 (orI vs)) ∧ Ext w w' := by
  obtain ⟨A, c, rfl, _, hrd⟩ := id hx
  have HRD := Lib.hid hrd
  clear hx hrd
  obtain ⟨n, hn⟩ : ∃ n, n = vs.length := ⟨_, rfl⟩
  rw [← hn] at hl ⊢
  have HN := Lib.hid hn
  clear hn
  go_enter Try.func110, Try.ntmps110
  go_wp2_with fail
  go_loopw [8] (fun i wr => ∃ (j : Nat), j ≤ n ∧ i = .int .i64 (j : Int) ∧ Hid (orI vs = orI (vs.drop j)) ∧ Ext w wr) (fun i _ => n - (intOf i).toNat)
  case atStart => exact ⟨0, by omega, rfl, Lib.hid rfl, Ext.refl _⟩
  case round =>
    obtain ⟨j, hj, rfl, HO, hX⟩ := hrel
    obtain ⟨wo, rfl⟩ : ∃ W : World, W = wr := ⟨_, rfl⟩
    by_cases hlt : j < n
    · have hij : (j : Int) < (n : Int) := by omega
      have hlt' : j < vs.length := by rw [← HN.out]; exact hlt
      obtain ⟨bb, oo, rfl, hc⟩ := (HRD.out.ext hX).at2 (k := j) (by simpa using hlt')
      have HD := Lib.hid (List.drop_eq_getElem_cons hlt')
      have hcell : wo.cell? ⟨bb, oo + j, none⟩ = some (.int .i64 vs[j]) := by rw [hc, List.getElem_map]; rfl
      generalize vs[j] = v at *
      clear hc
      by_cases h0 : v = 0
      · have e0 : (v != 0) = false := by simpa using h0
        have HO2 : Hid (orI vs = orI (vs.drop (j + 1))) := Lib.hid (by rw [HO.out, HD.out, orI, if_pos h0])
        clear h0 HO
        go_wp2_with fail
        go_roundw
        case rel => exact ⟨j + 1, by omega, by first | (with_reducible rfl) | go_num, HO2, hX⟩
        case measure => simp [intOf]; omega
      · have e0 : (v != 0) = true := by simpa using h0
        have HO2 : Hid (orI vs = v) := Lib.hid (by rw [HO.out, HD.out]; unfold orI; rw [if_neg h0])
        clear h0 HO
        go_wp2_with fail
        go_ret
        exact ⟨by rw [HO2.out]; rfl, hX⟩
    · have hij : ¬ (j : Int) < (n : Int) := by omega
      have HO2 : Hid (orI vs = 0) := Lib.hid (by rw [HO.out, List.drop_of_length_le (by rw [← HN.out]; omega)]; rfl)
      clear HO
      go_wp2_with fail
      go_ret
      exact ⟨by rw [HO2.out]; rfl, hX⟩
theorem orI_lt (a b : Rng) : 0 ≤ orI [cmpI a.lo b.lo, cmpI a.ctx b.ctx, cmpI a.var b.var, cmpI a.piece b.piece] ↔ ¬ ltK a b := by
  have key : ∀ x y : Int, (x < y ∧ cmpI x y = -1) ∨ (x = y ∧ cmpI x y = 0) ∨ (y < x ∧ cmpI x y = 1) := fun x y => by
    unfold cmpI
    rcases Int.lt_trichotomy x y with h | h | h
    · exact .inl ⟨h, by rw [if_pos h]⟩
    · exact .inr (.inl ⟨h, by rw [if_neg (by omega), if_neg (by omega)]⟩)
    · exact .inr (.inr ⟨h, by rw [if_neg (by omega), if_pos h]⟩)
  unfold ltK
  rcases key a.lo b.lo with ⟨h1, e1⟩ | ⟨h1, e1⟩ | ⟨h1, e1⟩
  · rw [e1]; simp [orI]; omega
  · rw [e1]
    rcases key a.ctx b.ctx with ⟨h2, e2⟩ | ⟨h2, e2⟩ | ⟨h2, e2⟩
    · rw [e2]; simp [orI]; omega
    · rw [e2]
      rcases key a.var b.var with ⟨h3, e3⟩ | ⟨h3, e3⟩ | ⟨h3, e3⟩
      · rw [e3]; simp [orI]; omega
      · rw [e3]
        rcases key a.piece b.piece with ⟨h4, e4⟩ | ⟨h4, e4⟩ | ⟨h4, e4⟩
        · rw [e4]; simp [orI]; omega
        · rw [e4]; simp [orI]; omega
        · rw [e4]; simp [orI]; omega
      · rw [e3]; simp [orI]; omega
    · rw [e2]; simp [orI]; omega
  · rw [e1]; simp [orI]; omega
def CmpPost (a b : Rng) (w : World) (en : Ending) (w' : World) : Prop := ∃ v : Int, en = .returned (.int .i64 v) ∧ (0 ≤ v ↔ ¬ ltK a b) ∧ Ext w w'
set_option maxHeartbeats 4000000 in
set_option maxRecDepth 100000 in
theorem compareR_any (a b : Rng) (y z : Value) (w : World) (hy : ∃ A n c, y = .slice A n c) (hz : ∃ A n c, z = .slice A n c) : Calls Try.prog 94 #[.agg #[.int .i64 a.ctx, .int .i64 a.var, .int .i64 a.piece, .int .i64 a.lo, .int .i64 a.hi, y], .agg #[.int .i64 b.ctx, .int .i64 b.var, .int .i64 b.piece, .int .i64 b.lo, .int .i64 b.hi, z]] w (CmpPost a b w) := by
  obtain ⟨A1, n1, c1, rfl⟩ := hy
  obtain ⟨A2, n2, c2, rfl⟩ := hz
  go_enter Try.func94, Try.ntmps94
  go_upto_region 1 with fail
  have e1 := heap_alloc_new w (.cells #[.int .i64 a.ctx, .int .i64 a.var, .int .i64 a.piece, .int .i64 a.lo, .int .i64 a.hi, .slice A1 n1 c1] 69)
  have x1 := (Ext.refl w).alloc (.cells #[.int .i64 a.ctx, .int .i64 a.var, .int .i64 a.piece, .int .i64 a.lo, .int .i64 a.hi, .slice A1 n1 c1] 69)
  have z1 : (w.alloc (.cells #[.int .i64 a.ctx, .int .i64 a.var, .int .i64 a.piece, .int .i64 a.lo, .int .i64 a.hi, .slice A1 n1 c1] 69)).heap.size = w.heap.size + 1 := by simp
  have e2 := heap_alloc_new (w.alloc (.cells #[.int .i64 a.ctx, .int .i64 a.var, .int .i64 a.piece, .int .i64 a.lo, .int .i64 a.hi, .slice A1 n1 c1] 69)) (.cells #[.int .i64 b.ctx, .int .i64 b.var, .int .i64 b.piece, .int .i64 b.lo, .int .i64 b.hi, .slice A2 n2 c2] 69)
  have x2 := (Ext.refl (w.alloc (.cells #[.int .i64 a.ctx, .int .i64 a.var, .int .i64 a.piece, .int .i64 a.lo, .int .i64 a.hi, .slice A1 n1 c1] 69))).alloc (.cells #[.int .i64 b.ctx, .int .i64 b.var, .int .i64 b.piece, .int .i64 b.lo, .int .i64 b.hi, .slice A2 n2 c2] 69)
  have e1' := x2.heap e1
  have hE := x1.trans x2
  rw [z1] at e2
  generalize (w.alloc (.cells #[.int .i64 a.ctx, .int .i64 a.var, .int .i64 a.piece, .int .i64 a.lo, .int .i64 a.hi, .slice A1 n1 c1] 69)).alloc (.cells #[.int .i64 b.ctx, .int .i64 b.var, .int .i64 b.piece, .int .i64 b.lo, .int .i64 b.hi, .slice A2 n2 c2] 69) = W at *
  clear e1 x1 z1 x2
  obtain ⟨a0, a1, a2, a3, a4, a5⟩ := blk6 e1'
  obtain ⟨b0, b1, b2, b3, b4, b5⟩ := blk6 e2
  refine wp_region_X #[true, true, true, true, true, true, true, true, true, true, true, true, true, true, true, true, true, true, true, true, true, true, false] 22 1 (by kernel_rfl) rfl ?_
  refine wpX_vt 0 (.pointer (some ⟨w.heap.size, 3, none⟩)) rfl rfl (by kernel_rfl) (by kernel_rfl) (by kernel_rfl) (fun _ _ _ _ h => h) (by kernel_rfl) rfl (by rfl) (fun W' hW => by
    skip
    go_simp) ?_
  simp only [List.setIfInBounds_toArray, List.set_cons_zero, List.set_cons_succ]
  refine wpX_vt 1 (.int .i64 a.lo) rfl rfl (by kernel_rfl) (by kernel_rfl) (by kernel_rfl) (fun _ _ _ _ h => h) (by kernel_rfl) rfl (by rfl) (fun W' hW => by
    have z := (((Ext.refl W).drew).trans hW).cell a3
    go_simp) ?_
  simp only [List.setIfInBounds_toArray, List.set_cons_zero, List.set_cons_succ]
  refine wpX_vt 2 (.pointer (some ⟨w.heap.size + 1, 3, none⟩)) rfl rfl (by kernel_rfl) (by kernel_rfl) (by kernel_rfl) (fun _ _ _ _ h => h) (by kernel_rfl) rfl (by rfl) (fun W' hW => by
    skip
    go_simp) ?_
  simp only [List.setIfInBounds_toArray, List.set_cons_zero, List.set_cons_succ]
  refine wpX_vt 3 (.int .i64 b.lo) rfl rfl (by kernel_rfl) (by kernel_rfl) (by kernel_rfl) (fun _ _ _ _ h => h) (by kernel_rfl) rfl (by rfl) (fun W' hW => by
    have z := (((Ext.refl W).drew).trans hW).cell b3
    go_simp) ?_
  simp only [List.setIfInBounds_toArray, List.set_cons_zero, List.set_cons_succ]
  refine wpX_vt 5 (.pointer (some ⟨w.heap.size, 0, none⟩)) rfl rfl (by kernel_rfl) (by kernel_rfl) (by kernel_rfl) (fun _ _ _ _ h => h) (by kernel_rfl) rfl (by rfl) (fun W' hW => by
    skip
    go_simp) ?_
  simp only [List.setIfInBounds_toArray, List.set_cons_zero, List.set_cons_succ]
  refine wpX_vt 6 (.int .i64 a.ctx) rfl rfl (by kernel_rfl) (by kernel_rfl) (by kernel_rfl) (fun _ _ _ _ h => h) (by kernel_rfl) rfl (by rfl) (fun W' hW => by
    have z := (((Ext.refl W).drew).trans hW).cell a0
    go_simp) ?_
  simp only [List.setIfInBounds_toArray, List.set_cons_zero, List.set_cons_succ]
  refine wpX_vt 7 (.pointer (some ⟨w.heap.size + 1, 0, none⟩)) rfl rfl (by kernel_rfl) (by kernel_rfl) (by kernel_rfl) (fun _ _ _ _ h => h) (by kernel_rfl) rfl (by rfl) (fun W' hW => by
    skip
    go_simp) ?_
  simp only [List.setIfInBounds_toArray, List.set_cons_zero, List.set_cons_succ]
  refine wpX_vt 8 (.int .i64 b.ctx) rfl rfl (by kernel_rfl) (by kernel_rfl) (by kernel_rfl) (fun _ _ _ _ h => h) (by kernel_rfl) rfl (by rfl) (fun W' hW => by
    have z := (((Ext.refl W).drew).trans hW).cell b0
    go_simp) ?_
  simp only [List.setIfInBounds_toArray, List.set_cons_zero, List.set_cons_succ]
  refine wpX_vt 10 (.pointer (some ⟨w.heap.size, 1, none⟩)) rfl rfl (by kernel_rfl) (by kernel_rfl) (by kernel_rfl) (fun _ _ _ _ h => h) (by kernel_rfl) rfl (by rfl) (fun W' hW => by
    skip
    go_simp) ?_
  simp only [List.setIfInBounds_toArray, List.set_cons_zero, List.set_cons_succ]
  refine wpX_vt 11 (.int .i64 a.var) rfl rfl (by kernel_rfl) (by kernel_rfl) (by kernel_rfl) (fun _ _ _ _ h => h) (by kernel_rfl) rfl (by rfl) (fun W' hW => by
    have z := (((Ext.refl W).drew).trans hW).cell a1
    go_simp) ?_
  simp only [List.setIfInBounds_toArray, List.set_cons_zero, List.set_cons_succ]
  refine wpX_vt 12 (.pointer (some ⟨w.heap.size + 1, 1, none⟩)) rfl rfl (by kernel_rfl) (by kernel_rfl) (by kernel_rfl) (fun _ _ _ _ h => h) (by kernel_rfl) rfl (by rfl) (fun W' hW => by
    skip
    go_simp) ?_
  simp only [List.setIfInBounds_toArray, List.set_cons_zero, List.set_cons_succ]
  refine wpX_vt 13 (.int .i64 b.var) rfl rfl (by kernel_rfl) (by kernel_rfl) (by kernel_rfl) (fun _ _ _ _ h => h) (by kernel_rfl) rfl (by rfl) (fun W' hW => by
    have z := (((Ext.refl W).drew).trans hW).cell b1
    go_simp) ?_
  simp only [List.setIfInBounds_toArray, List.set_cons_zero, List.set_cons_succ]
  refine wpX_vt 15 (.pointer (some ⟨w.heap.size, 2, none⟩)) rfl rfl (by kernel_rfl) (by kernel_rfl) (by kernel_rfl) (fun _ _ _ _ h => h) (by kernel_rfl) rfl (by rfl) (fun W' hW => by
    skip
    go_simp) ?_
  simp only [List.setIfInBounds_toArray, List.set_cons_zero, List.set_cons_succ]
  refine wpX_vt 16 (.int .i64 a.piece) rfl rfl (by kernel_rfl) (by kernel_rfl) (by kernel_rfl) (fun _ _ _ _ h => h) (by kernel_rfl) rfl (by rfl) (fun W' hW => by
    have z := (((Ext.refl W).drew).trans hW).cell a2
    go_simp) ?_
  simp only [List.setIfInBounds_toArray, List.set_cons_zero, List.set_cons_succ]
  refine wpX_vt 17 (.pointer (some ⟨w.heap.size + 1, 2, none⟩)) rfl rfl (by kernel_rfl) (by kernel_rfl) (by kernel_rfl) (fun _ _ _ _ h => h) (by kernel_rfl) rfl (by rfl) (fun W' hW => by
    skip
    go_simp) ?_
  simp only [List.setIfInBounds_toArray, List.set_cons_zero, List.set_cons_succ]
  refine wpX_vt 18 (.int .i64 b.piece) rfl rfl (by kernel_rfl) (by kernel_rfl) (by kernel_rfl) (fun _ _ _ _ h => h) (by kernel_rfl) rfl (by rfl) (fun W' hW => by
    have z := (((Ext.refl W).drew).trans hW).cell b2
    go_simp) ?_
  simp only [List.setIfInBounds_toArray, List.set_cons_zero, List.set_cons_succ]
  refine wpX_c 4 111 #[.int .i64 a.lo, .int .i64 b.lo] rfl rfl (by kernel_rfl) rfl rfl (fun W => by go_simp) ?_
  intro W1 hW1
  have hXW1 := ((Ext.refl W).drew).trans hW1
  refine (cmpCompare_any a.lo b.lo W1).mono ?_
  rintro en w5' ⟨rfl, hw5⟩
  subst hw5
  refine ⟨_, rfl, Ext.refl _, ?_⟩
  simp only [List.setIfInBounds_toArray, List.set_cons_zero, List.set_cons_succ]
  refine wpX_c 9 111 #[.int .i64 a.ctx, .int .i64 b.ctx] rfl rfl (by kernel_rfl) rfl rfl (fun W => by go_simp) ?_
  intro W2 hW2
  have hXW2 := hXW1.trans hW2
  refine (cmpCompare_any a.ctx b.ctx W2).mono ?_
  rintro en w5' ⟨rfl, hw5⟩
  subst hw5
  refine ⟨_, rfl, Ext.refl _, ?_⟩
  simp only [List.setIfInBounds_toArray, List.set_cons_zero, List.set_cons_succ]
  refine wpX_c 14 111 #[.int .i64 a.var, .int .i64 b.var] rfl rfl (by kernel_rfl) rfl rfl (fun W => by go_simp) ?_
  intro W3 hW3
  have hXW3 := hXW2.trans hW3
  refine (cmpCompare_any a.var b.var W3).mono ?_
  rintro en w5' ⟨rfl, hw5⟩
  subst hw5
  refine ⟨_, rfl, Ext.refl _, ?_⟩
  simp only [List.setIfInBounds_toArray, List.set_cons_zero, List.set_cons_succ]
  refine wpX_c 19 111 #[.int .i64 a.piece, .int .i64 b.piece] rfl rfl (by kernel_rfl) rfl rfl (fun W => by go_simp) ?_
  intro W4 hW4
  have hXW4 := hXW3.trans hW4
  refine (cmpCompare_any a.piece b.piece W4).mono ?_
  rintro en w5' ⟨rfl, hw5⟩
  subst hw5
  refine ⟨_, rfl, Ext.refl _, ?_⟩
  simp only [List.setIfInBounds_toArray, List.set_cons_zero, List.set_cons_succ]
  refine wpX_m 20 rfl rfl (by kernel_rfl) rfl (by rfl) fun W5 hW5 => ?_
  have hA := (Ext.refl W5).alloc (.cells #[.int .i64 (cmpI a.lo b.lo), .int .i64 (cmpI a.ctx b.ctx), .int .i64 (cmpI a.var b.var), .int .i64 (cmpI a.piece b.piece)] 3)
  refine ⟨.slice (some ⟨W5.heap.size, 0, none⟩) 4 4, W5.alloc (.cells #[.int .i64 (cmpI a.lo b.lo), .int .i64 (cmpI a.ctx b.ctx), .int .i64 (cmpI a.var b.var), .int .i64 (cmpI a.piece b.piece)] 3), by go_simp, hA, ?_⟩
  simp only [List.setIfInBounds_toArray, List.set_cons_zero, List.set_cons_succ]
  have hin : InI (W5.alloc (.cells #[.int .i64 (cmpI a.lo b.lo), .int .i64 (cmpI a.ctx b.ctx), .int .i64 (cmpI a.var b.var), .int .i64 (cmpI a.piece b.piece)] 3)) (.slice (some ⟨W5.heap.size, 0, none⟩) 4 4) [cmpI a.lo b.lo, cmpI a.ctx b.ctx, cmpI a.var b.var, cmpI a.piece b.piece] := ⟨_, 4, rfl, Nat.le_refl _, Rd_blk (heap_alloc_new W5 (.cells #[.int .i64 (cmpI a.lo b.lo), .int .i64 (cmpI a.ctx b.ctx), .int .i64 (cmpI a.var b.var), .int .i64 (cmpI a.piece b.piece)] 3))⟩
  have hX5 := (hXW4.trans hW5).trans hA
  generalize W5.alloc (.cells #[.int .i64 (cmpI a.lo b.lo), .int .i64 (cmpI a.ctx b.ctx), .int .i64 (cmpI a.var b.var), .int .i64 (cmpI a.piece b.piece)] 3) = W6 at *
  generalize W5.heap.size = g6 at *
  refine wpX_c 21 110 #[.slice (some ⟨g6, 0, none⟩) 4 4] rfl rfl (by kernel_rfl) rfl rfl (fun W => by go_simp) ?_
  intro W7 hW7
  refine (cmpOr_any _ _ W7 (hin.ext hW7) (by simp)).mono ?_
  rintro en w8 ⟨rfl, he8⟩
  refine ⟨_, rfl, he8, ?_⟩
  simp only [List.setIfInBounds_toArray, List.set_cons_zero, List.set_cons_succ]
  obtain ⟨v, hv⟩ : ∃ v, v = orI [cmpI a.lo b.lo, cmpI a.ctx b.ctx, cmpI a.var b.var, cmpI a.piece b.piece] := ⟨_, rfl⟩
  have HV : Hid (0 ≤ v ↔ ¬ ltK a b) := Lib.hid (by rw [hv]; exact orI_lt a b)
  rw [← hv]
  clear hv
  refine wpX_end rfl fun W9 hW9 => tail_seq 22 rfl (by kernel_rfl) ?_
  simp only [List.drop_succ_cons, List.drop_zero]
  have hX9 := hE.trans (((hX5.trans hW7).trans he8).trans hW9)
  clear hW9 he8 hW7 hX5 hin hA hW5 hXW1 hXW2 hXW3 hXW4 hW1 hW2 hW3 hW4 e1' e2 a0 a1 a2 a3 a4 a5 b0 b1 b2 b3 b4 b5
  go_wp2_with fail
  refine NoPanic.normal ?_
  go_wp2_with fail
  go_ret
  exact ⟨v, rfl, HV.out, hX9⟩
set_option maxHeartbeats 4000000 in
set_option maxRecDepth 100000 in
theorem pieceOf_any (a : Rng) (y : Value) (w : World) (hy : ∃ A n c, y = .slice A n c) : Calls Try.prog 95 #[.agg #[.int .i64 a.ctx, .int .i64 a.var, .int .i64 a.piece, .int .i64 a.lo, .int .i64 a.hi, y]] w fun en w' => en = .returned (.agg #[.int .i64 a.ctx, .int .i64 a.var, .int .i64 a.piece]) ∧ Ext w w' := by
  obtain ⟨A1, n1, c1, rfl⟩ := hy
  go_enter Try.func95, Try.ntmps95
  go_upto_region 1 with fail
  have e1 := heap_alloc_new w (.cells #[.int .i64 a.ctx, .int .i64 a.var, .int .i64 a.piece, .int .i64 a.lo, .int .i64 a.hi, .slice A1 n1 c1] 69)
  have x1 := (Ext.refl w).alloc (.cells #[.int .i64 a.ctx, .int .i64 a.var, .int .i64 a.piece, .int .i64 a.lo, .int .i64 a.hi, .slice A1 n1 c1] 69)
  have z1 : (w.alloc (.cells #[.int .i64 a.ctx, .int .i64 a.var, .int .i64 a.piece, .int .i64 a.lo, .int .i64 a.hi, .slice A1 n1 c1] 69)).heap.size = w.heap.size + 1 := by simp
  have e2 := heap_alloc_new (w.alloc (.cells #[.int .i64 a.ctx, .int .i64 a.var, .int .i64 a.piece, .int .i64 a.lo, .int .i64 a.hi, .slice A1 n1 c1] 69)) (.cells #[.int .i64 0, .int .i64 0, .int .i64 0] 156)
  have x2 := (Ext.refl (w.alloc (.cells #[.int .i64 a.ctx, .int .i64 a.var, .int .i64 a.piece, .int .i64 a.lo, .int .i64 a.hi, .slice A1 n1 c1] 69))).alloc (.cells #[.int .i64 0, .int .i64 0, .int .i64 0] 156)
  have e1' := x2.heap e1
  have hE := x1.trans x2
  rw [z1] at e2
  generalize (w.alloc (.cells #[.int .i64 a.ctx, .int .i64 a.var, .int .i64 a.piece, .int .i64 a.lo, .int .i64 a.hi, .slice A1 n1 c1] 69)).alloc (.cells #[.int .i64 0, .int .i64 0, .int .i64 0] 156) = W at *
  clear e1 x1 z1 x2
  obtain ⟨a0, a1, a2, a3, a4, a5⟩ := blk6 e1'
  have hst := run_storeAt_blk (P := Try.prog) W (w.heap.size + 1) 156 156 _ #[.int .i64 a.ctx, .int .i64 a.var, .int .i64 a.piece] e2 (by kernel_rfl) rfl (by simp [Value.oneCell'])
  have hG := setRow_heap W (w.heap.size + 1) _ #[.int .i64 a.ctx, .int .i64 a.var, .int .i64 a.piece] _ _ e2
  have hXn := hE.grown (gsetRow W (w.heap.size + 1) #[.int .i64 a.ctx, .int .i64 a.var, .int .i64 a.piece]) (fun k e => by cases e; omega)
  go_wp2_with first | refine wpList_store_run rfl 156 (.tmp 2) (.tmp 9) rfl _ _ _ rfl rfl hst ?_
  obtain ⟨k0, k1, k2⟩ := blkT hG
  refine bodyPost_ret (v := .agg #[.int .i64 a.ctx, .int .i64 a.var, .int .i64 a.piece]) (by simp [results, Try.results95, go_sem, k0, k1, k2]) rfl ?_
  exact ⟨rfl, hXn⟩
end Go.Proofs.Ytokmbdeafjmcjaa
/- The map of ends of rightRanges. -/
namespace Go.Proofs.Ytokmbdeafjmcjaa
open Go.RowKit
set_option linter.unusedVariables false
set_option linter.unusedSimpArgs false

def pv (k : Int × Int × Int) : Value := .agg #[.int .i64 k.1, .int .i64 k.2.1, .int .i64 k.2.2]
def I64 (n : Int) : Prop := -9223372036854775808 ≤ n ∧ n ≤ 9223372036854775807
theorem pe_laid : laidOutB Try.prog = true := by kernel_rfl
theorem pe_row : (156 : TypeId) < Try.prog.types.size := of_decide_eq_true (by kernel_rfl)
set_option maxRecDepth 100000 in
theorem pe_wide : (match Try.prog.underlying 156 with | some (.array _ _) | some (.struct _) => true | _ => false) = true := by rw [Try.underlying156]
set_option maxRecDepth 100000 in
theorem pe_law : Maps.Keyed Try.prog 156 := Maps.Keyed.of_law (deep_law_laid pe_laid (m := 2) (by omega) pe_row (by kernel_rfl) pe_wide)
theorem pe_cells : Try.prog.cellsOf 156 = 3 := by kernel_rfl
theorem in_cells : Try.prog.cellsOf 3 = 1 := by kernel_rfl
theorem wf_int {n : Int} (h : I64 n) : (Lit.int .i64 n).wf = true := by
  unfold I64 at h
  simp [Lit.wf, IntKind.min, IntKind.max, IntKind.bits, IntKind.signed]
  omega
set_option maxRecDepth 100000 in
theorem key_pv {k : Int × Int × Int} (h1 : I64 k.1) (h2 : I64 k.2.1) (h3 : I64 k.2.2) : ∃ l, keyOf Try.prog 156 (pv k) = some l := by
  obtain ⟨m, hm⟩ : ∃ m, Try.prog.types.size = m + 1 := ⟨Try.prog.types.size - 1, by have : 0 < Try.prog.types.size := of_decide_eq_true (by kernel_rfl); omega⟩
  have hkt : Try.prog.keyType 156 = true := by kernel_rfl
  have hfo : (pv k).formed Try.prog 156 = true := by simp [pv, Value.formed, Try.underlying156, pe_cells]
  have w1 := wf_int h1
  have w2 := wf_int h2
  have w3 := wf_int h3
  unfold keyOf
  rw [Try.underlying156]
  simp only [hkt, hfo, Bool.and_self, if_true]
  rw [hm]
  simp [Program.keyLits, Try.underlying156, Try.underlying3, pe_cells, in_cells, pv, Value.cells, w1, w2, w3]
/-- a map from pieces to numbers -/
def MP (b n : Nat) (W : World) (E : Int × Int × Int → Option Int) : Prop := ∃ D : DataW Value, W.ownsMap Try.prog 156 heldR b n D ∧ Maps.IsMap D ∧ ∀ k l, keyOf Try.prog 156 (pv k) = some l → ∀ zd, D.atKey l zd = (E k).elim zd (fun v => .held (.int .i64 v))
theorem MP.made (w : World) : MP w.heap.size 0 (w.alloc (.map #[] 0)) (fun _ => none) := ⟨.map [], World.ownsMap_made w _ _ _, Maps.isMap_empty, fun k l _ zd => rfl⟩
section
variable {b n : Nat} {W W' : World} {E : Int × Int × Int → Option Int}
theorem MP.blk (h : MP b n W E) : b < W.heap.size := by obtain ⟨D, h1, _⟩ := h; exact h1.lt
theorem MP.ext (h : MP b n W E) (he : Ext W W') : MP b n W' E := by
  obtain ⟨D, h1, h2, h3⟩ := h
  exact ⟨D, h1.kept (he.grownBy none) (by simp), h2, h3⟩
theorem zero_in (w : World) : (zeroValue 3).run Try.prog w = .ok (.int .i64 0) w := by go_simp
set_option maxRecDepth 100000 in
theorem MP.look (h : MP b n W E) {k : Int × Int × Int} (h1 : I64 k.1) (h2 : I64 k.2.1) (h3 : I64 k.2.2) :
    (Instr.lookup 151 (.map (some b)) (pv k) true).run Try.prog W = .ok (.tuple #[.int .i64 ((E k).getD 0), .bool (E k).isSome]) W := by
  obtain ⟨D, ⟨es, clock, hb, F, _, hD⟩, _, hat⟩ := h
  obtain ⟨l, hl⟩ := key_pv h1 h2 h3
  have hat' := hat k l hl
  rw [hD] at hat'
  rcases Maps.fit_look (t := 151) (e := 3) true pe_law Try.underlying151 (zero_in W) hb F hl with ⟨hr, _, hz⟩ | ⟨e0, y, _, _, hr, hy, hz, _⟩
  · rw [hr]
    cases hE : E k with
    | none => rfl
    | some v =>
      have := (hz .nil).symm.trans (hat' .nil)
      rw [hE] at this
      cases this
  · rw [hr]
    have hy' : y = (.held e0.val, []) := by unfold heldR at hy; injection hy with hy; exact hy.symm
    cases hE : E k with
    | none =>
      have := (hz .nil).symm.trans (hat' .nil)
      rw [hE, hy'] at this
      cases this
    | some v =>
      have := (hz .nil).symm.trans (hat' .nil)
      rw [hE, hy'] at this
      simp only [Option.elim_some, DataW.held.injEq] at this
      rw [this]
      rfl
set_option maxRecDepth 100000 in
theorem MP.put (h : MP b n W E) {k : Int × Int × Int} (h1 : I64 k.1) (h2 : I64 k.2.1) (h3 : I64 k.2.2) (hn : n < 9223372036854775807) (v : Int) :
    ∃ W2, (Instr.mapUpdate 151 (.map (some b)) (pv k) (.int .i64 v)).run Try.prog W = .ok () W2 ∧ MP b (n + 1) W2 (fun x => if x = k then some v else E x) ∧ W.grownBy W2 (some b) := by
  obtain ⟨D, hM, hI, hat⟩ := h
  obtain ⟨l, hl⟩ := key_pv h1 h2 h3
  obtain ⟨W2, hr, h4, h5⟩ := hM.update (t := 151) (e := 3) pe_law Try.underlying151 (by simp only [maxLen]; omega) hl (d := .held (.int .i64 v)) (ps := []) rfl
  refine ⟨W2, hr, ⟨_, h4, hI.put _ _, fun x lx hlx zd => ?_⟩, h5⟩
  by_cases hx : x = k
  · subst hx
    rw [hl] at hlx
    injection hlx with hlx
    subst hlx
    simp only [if_true]
    exact Maps.atKey_put_same hI (pe_law.key hl) _ _
  · simp only [if_neg hx]
    have hne : lx ≠ l := fun e => hx (by
      rw [e] at hlx
      have := pe_law.inj hlx hl
      unfold pv at this
      simp only [Value.agg.injEq, Array.mk.injEq, List.cons.injEq, Value.int.injEq, true_and, and_true] at this
      obtain ⟨e1, e2, e3⟩ := this
      exact Prod.ext e1 (Prod.ext e2 e3))
    rw [Maps.atKey_put_other hne]
    exact hat x lx hlx zd
end
end Go.Proofs.Ytokmbdeafjmcjaa
