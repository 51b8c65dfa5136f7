/- Replies: how the program decodes them. -/
import Derived.Test.YtoeibcpjmoekpaaRepQ
import Derived.Test.YtoeibcpjmoekpaaRepE
import Derived.Test.YtoeibcpjmoekpaaStructs
namespace Go.Proofs.Ytoeibcpjmoekpaa
open Go.RowKit
set_option linter.unusedVariables false

def DecRPost (b : List UInt8) (w : World) (e : Ending) (w' : World) : Prop := ∃ v r er, e = .returned (.tuple #[v, .int .i64 er]) ∧ DecRIs b r er ∧ RepAt w' v r ∧ Ext w w'
/-- the rows of a reply that is being read -/
structure RowsAt (base : Nat) (W : World) (yw yt yo : Value) (words : List Int) (us : List (Thr × Value)) (outs : List (Int × Int)) : Prop where
  words : OwnV iv 3 base W yw words
  thr : OwnR thrCells 20 91 base W yt us
  regs : ∀ u ∈ us, u.1.regs.length = 16
  args : ∀ u ∈ us, OwnV iv 3 base W u.2 u.1.args
  out : OwnR outCells 2 62 base W yo outs
section
variable {base : Nat} {W W' : World} {yw yt yo : Value} {words : List Int} {us : List (Thr × Value)} {outs : List (Int × Int)}
theorem RowsAt.ext (h : RowsAt base W yw yt yo words us outs) (he : Ext W W') : RowsAt base W' yw yt yo words us outs :=
  ⟨h.words.ext he, h.thr.ext he, h.regs, fun u hu => (h.args u hu).ext he, h.out.ext he⟩
theorem RowsAt.far {g : Nat} {cs : Array Value} {t : TypeId} {fr : Nat × Nat} (h : RowsAt base W yw yt yo words us outs) (hg : W.grownBy W' (some g)) (hb : W.heap[g]? = some (.cells cs t fr)) (t1 : 3 ≠ t) (t2 : 91 ≠ t) (t3 : 62 ≠ t) : RowsAt base W' yw yt yo words us outs :=
  ⟨h.words.kept hg (.inr (h.words.ne_blk hb t1)), h.thr.kept hg (.inr (h.thr.ne_blk hb t2)), h.regs, fun u hu => (h.args u hu).kept hg (.inr ((h.args u hu).ne_blk hb t1)), h.out.kept hg (.inr (h.out.ne_blk hb t3))⟩
/-- a thread that is made of its own -/
theorem RowsAt.farT {g : Nat} {cs : Array Value} {fr : Nat × Nat} (h : RowsAt base W yw yt yo words us outs) (hg : W.grownBy W' (some g)) (hb : W.heap[g]? = some (.cells cs 91 fr)) (hne : yt.ownBlock ≠ some g) : RowsAt base W' yw yt yo words us outs :=
  ⟨h.words.kept hg (.inr (h.words.ne_blk hb (by decide))), h.thr.kept hg (.inr hne), h.regs, fun u hu => (h.args u hu).kept hg (.inr ((h.args u hu).ne_blk hb (by decide))), h.out.kept hg (.inr (h.out.ne_blk hb (by decide)))⟩
theorem RowsAt.addT {yt' : Value} {u : Thr × Value} (h : RowsAt base W yw yt yo words us outs) (hg : Grew W W' yt yt') (ho : OwnR thrCells 20 91 base W' yt' (us ++ [u])) (hr : u.1.regs.length = 16) (ha : OwnV iv 3 base W u.2 u.1.args) : RowsAt base W' yw yt' yo words (us ++ [u]) outs := by
  refine ⟨h.words.kept hg.grown (row_ne h.words h.thr (by decide)), ho, ?_, ?_, h.out.kept hg.grown (row_ne h.out h.thr (by decide))⟩
  · intro x hx
    rcases List.mem_append.1 hx with hx | hx
    · exact h.regs x hx
    · simp only [List.mem_singleton] at hx; subst hx; exact hr
  · intro x hx
    rcases List.mem_append.1 hx with hx | hx
    · exact (h.args x hx).kept hg.grown (row_ne (h.args x hx) h.thr (by decide))
    · simp only [List.mem_singleton] at hx; subst hx; exact ha.kept hg.grown (row_ne ha h.thr (by decide))
theorem RowsAt.addO {yo' : Value} {outs' : List (Int × Int)} (h : RowsAt base W yw yt yo words us outs) (hg : Grew W W' yo yo') (ho : OwnR outCells 2 62 base W' yo' outs') : RowsAt base W' yw yt yo' words us outs' :=
  ⟨h.words.kept hg.grown (row_ne h.words h.out (by decide)), h.thr.kept hg.grown (row_ne h.thr h.out (by decide)), h.regs, fun x hx => (h.args x hx).kept hg.grown (row_ne (h.args x hx) h.out (by decide)), ho⟩
theorem RowsAt.repIn (h : RowsAt base W yw yt yo words us outs) (err s0 s1 s2 s3 s4 s5 s6 : Int) : RepIn W yw yt yo ⟨err, words, us.map Prod.fst, outs, s0, s1, s2, s3, s4, s5, s6⟩ :=
  ⟨h.words.inV, ⟨us, rfl, h.thr.inR, fun z hz => ⟨h.regs z hz, (h.args z hz).inV⟩⟩, h.out.inR⟩
end
/-- a thread in a block of its own -/
def ThrBlk (W : World) (g : Nat) (t : Thr) (y : Value) : Prop := W.heap[g]? = some (.cells (thrCells (t, y)).toArray 91 (0, 0))
section
variable {W : World} {g : Nat} {t : Thr} {y : Value}
theorem ThrBlk.cells (h : ThrBlk W g t y) (hr : t.regs.length = 16) : (W.cell? ⟨g, 17, none⟩ = some (.int .i64 t.pc) ∧ W.cell? ⟨g, 19, none⟩ = some y) ∧ W.frozen? ⟨g, 17, none⟩ = false ∧ W.frozen? ⟨g, 19, none⟩ = false :=
  ⟨⟨blk_at h 17 _ (by rw [List.getElem?_toArray]; exact thr_17 (z := (t, y)) hr), blk_at h 19 _ (by rw [List.getElem?_toArray]; exact thr_19 (z := (t, y)) hr)⟩, blk_free h 17, blk_free h 19⟩
theorem ThrBlk.setPc (h : ThrBlk W g t y) (hr : t.regs.length = 16) (x : Int) : ThrBlk (W.setCell ⟨g, 17, none⟩ (.int .i64 x)) g ⟨t.state, t.regs, x, t.func, t.args⟩ y := by
  unfold ThrBlk at *
  rw [blk_set h 17]
  congr 2
  apply Array.ext'
  simp only [Array.toList_setIfInBounds, thrCells, List.set_cons_succ]
  rw [List.set_append_right _ _ (by simp [hr])]
  simp [hr]
theorem ThrBlk.setArgs (h : ThrBlk W g t y) (hr : t.regs.length = 16) (z : Value) (l : List Int) : ThrBlk (W.setCell ⟨g, 19, none⟩ z) g ⟨t.state, t.regs, t.pc, t.func, l⟩ z := by
  unfold ThrBlk at *
  rw [blk_set h 19]
  congr 2
  apply Array.ext'
  simp only [Array.toList_setIfInBounds, thrCells, List.set_cons_succ]
  rw [List.set_append_right _ _ (by simp [hr])]
  simp [hr]
theorem ThrBlk.setRegs (h : ThrBlk W g t y) (hr : t.regs.length = 16) (l : List Int) (hl : l.length = 16) : ThrBlk (W.setCells g 1 (l.map iv)) g ⟨t.state, l, t.pc, t.func, t.args⟩ y ∧ W.grownBy (W.setCells g 1 (l.map iv)) (some g) := by
  unfold ThrBlk at *
  obtain ⟨h1, h2⟩ := setCells_blk h (o := 1) (l.map iv) (by rw [thr_len (z := (t, y)) hr]; simp [hl])
  refine ⟨?_, h2⟩
  rw [h1]
  congr 3
  simp only [thrCells, List.take_succ_cons, List.take_zero, List.length_map, hl, List.drop_succ_cons]
  rw [List.drop_append]
  simp [hr]
end
theorem thr_size : (Try.prog.info? 91).map (·.size) = some 20 := by kernel_rfl
theorem rep_size : (Try.prog.info? 58).map (·.size) = some 11 := by kernel_rfl
theorem run_slice_l {P : Program} {t e : TypeId} {i : TypeInfo} (ht : P.underlying t = some (.slice e)) (hi : P.info? e = some i) (A : Option Addr) (n c lo : Nat) (h1 : lo ≤ n) (w : World) :
    (Instr.slice t (.slice A n c) (some (.int .i64 (lo : Int))) none none).run P w = .ok (.slice (if c = lo then A else A.map (·.add (lo * i.size))) (n - lo) (c - lo)) w := by
  simp [Instr.slice, run_underlying ht, Instr.sliceBounds, Instr.sliceBound, asIntOf, h1, sizeOf, typeInfo, hi]
end Go.Proofs.Ytoeibcpjmoekpaa
