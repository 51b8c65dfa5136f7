/- Readers of numbers and lists: the program's and the reference's. -/
import Derived.Test.YtoeibcpjmoekpaaMsgB
namespace Go.Proofs.Ytoeibcpjmoekpaa
open Go.RowKit
set_option linter.unusedVariables false

theorem gnew {a b c : World} {row row' : Option Nat} (h : a.grownBy b row) (k : b.grownBy c row') (hr : ∀ k, row' = some k → a.heap.size ≤ k) : a.grownBy c row := by
  have hs := h.size
  exact ⟨k.os.trans h.os, k.tape.trans h.tape, k.output.trans h.output, Nat.le_trans hs k.size, fun i hi hne => (k.block i (by omega) (fun e => by have := hr i e.symm; omega)).trans (h.block i hi hne)⟩
theorem gset (w : World) (p : Addr) (u : Value) : w.grownBy (w.setCell p u) (some p.block) :=
  ⟨rfl, rfl, rfl, by simp [World.setCell], fun k _ hk => Below.heap_setCell _ _ _ _ (fun e => hk (by rw [e]))⟩

theorem unzig_i64 {u : Nat} (h : u < 18446744073709551616) : I64 (unzig u) := by
  unfold unzig I64
  split <;> omega
theorem intR_i64 (b : List UInt8) (p : Int) : I64 (intR b p).1 := unzig_i64 (rdAt_lt9 b p)
/-- n numbers from a place on -/
def numsR (b : List UInt8) : Nat → Int → Option (List Int × Int)
  | 0, p => some ([], p)
  | n + 1, p => if (intR b p).2.2 = 0 then (numsR b n (intR b p).2.1).map fun r => ((intR b p).1 :: r.1, r.2) else none
def listR (b : List UInt8) (most p : Int) : Option (List Int × Int) := if (uintR b p).2.2 = 0 ∧ (uintR b p).1 ≤ most then numsR b (uintR b p).1.toNat (uintR b p).2.1 else none
def numR (b : List UInt8) (st : Option Int) : Int × Option Int :=
  match st with
  | none => (0, none)
  | some p => if (intR b p).2.2 = 0 then ((intR b p).1, some (intR b p).2.1) else (0, none)
def cntR (b : List UInt8) (most : Int) (st : Option Int) : Int × Option Int :=
  match st with
  | none => (0, none)
  | some p => if (uintR b p).2.2 = 0 ∧ (uintR b p).1 ≤ most then ((uintR b p).1, some (uintR b p).2.1) else (0, none)
def uR (b : List UInt8) (st : Option Int) : Int × Option Int :=
  match st with
  | none => (0, none)
  | some p => if (uintR b p).2.2 = 0 then ((uintR b p).1, some (uintR b p).2.1) else (0, none)
theorem numR_i64 (b : List UInt8) (st : Option Int) : I64 (numR b st).1 := by
  unfold numR
  split
  · exact ⟨by omega, by omega⟩
  · split
    · exact intR_i64 b _
    · exact ⟨by omega, by omega⟩

/-- where a reader stands -/
def stO (bad : Bool) (p : Int) : Option Int := if bad = true then none else some p
/-- a reader: where its block lies, what it reads, where it stands (none: something was wrong) -/
structure RS (t : TypeId) (w0 W : World) (g : Nat) (y : Value) (b : List UInt8) (st : Option Int) : Prop where
  inb : InB w0 y b
  ext : Ext w0 W
  ge : w0.heap.size ≤ g
  blk : ∃ p bad, W.heap[g]? = some (.cells #[y, .int .i64 p, .bool bad] t (0, 0)) ∧ st = stO bad p
theorem RS.grow {t : TypeId} {w0 W W' : World} {g : Nat} {y : Value} {b : List UInt8} {st : Option Int} (h : RS t w0 W g y b st) (he : Ext W W') : RS t w0 W' g y b st := by
  obtain ⟨p, bad, hb, hs⟩ := h.blk
  exact ⟨h.inb, h.ext.trans he, h.ge, p, bad, he.heap hb, hs⟩
theorem RS.far {t : TypeId} {w0 W W' : World} {g : Nat} {y : Value} {b : List UInt8} {st : Option Int} {row : Option Nat} (h : RS t w0 W g y b st) (hg : W.grownBy W' row) (hne : some g ≠ row) (hr : ∀ k, row = some k → w0.heap.size ≤ k) : RS t w0 W' g y b st := by
  obtain ⟨p, bad, hb, hs⟩ := h.blk
  exact ⟨h.inb, h.ext.grown hg hr, h.ge, p, bad, blk_grown hb hg hne, hs⟩
theorem RS.put {t : TypeId} {w0 W W' : World} {g : Nat} {y : Value} {b : List UInt8} {st : Option Int} {p : Int} {bad : Bool} (h : RS t w0 W g y b st) (hg : W.grownBy W' (some g)) (hb : W'.heap[g]? = some (.cells #[y, .int .i64 p, .bool bad] t (0, 0))) : RS t w0 W' g y b (stO bad p) :=
  ⟨h.inb, h.ext.grown hg (fun k e => by cases e; exact h.ge), h.ge, p, bad, hb, rfl⟩
theorem blk3 {w : World} {g : Nat} {a b c : Value} {t : TypeId} (H : w.heap[g]? = some (.cells #[a, b, c] t (0, 0))) :
    w.cell? ⟨g, 0, none⟩ = some a ∧ w.cell? ⟨g, 1, none⟩ = some b ∧ w.cell? ⟨g, 2, none⟩ = some c ∧ w.frozen? ⟨g, 0, none⟩ = false ∧ w.frozen? ⟨g, 1, none⟩ = false ∧ w.frozen? ⟨g, 2, none⟩ = false :=
  ⟨blk_at H 0 a rfl, blk_at H 1 b rfl, blk_at H 2 c rfl, blk_free H 0, blk_free H 1, blk_free H 2⟩
/-- what the readers of one number leave behind -/
def NumPost (t : TypeId) (w0 W : World) (g : Nat) (y : Value) (b : List UInt8) (r : Int × Option Int) (e : Ending) (W' : World) : Prop :=
  e = .returned (.int .i64 r.1) ∧ RS t w0 W' g y b r.2 ∧ W.grownBy W' (some g)


set_option maxHeartbeats 4000000 in
set_option maxRecDepth 100000 in
theorem rdNumber_any (w0 W : World) (g : Nat) (y : Value) (b : List UInt8) (st : Option Int) (hS : RS 76 w0 W g y b st) (hl : b.length ≤ 4294967296) :
    Calls Try.prog 53 #[.pointer (some ⟨g, 0, none⟩)] W (NumPost 76 w0 W g y b (numR b st)) := by
  obtain ⟨p, bad, hB, rfl⟩ := id hS.blk
  obtain ⟨q0, q1, q2, f0, f1, f2⟩ := blk3 hB
  have hlt := World.block_lt_of_cell? _ _ q0
  simp only at hlt
  obtain ⟨A, c, rfl, _, _⟩ := id hS.inb
  cases bad with
  | true =>
    go_enter Try.func53, Try.ntmps53
    go_wp2_with fail
    go_ret
    exact ⟨rfl, hS, (Ext.refl W).grownBy _⟩
  | false =>
    go_enter Try.func53, Try.ntmps53
    go_wp2_with fail
    clear q0 q1 q2 f0 f1 f2
    have HR : Hid (numR b (stO false p) = if (intR b p).2.2 = 0 then ((intR b p).1, some (intR b p).2.1) else (0, none)) := Lib.hid rfl
    refine wp_region_X #[true, true, true, true, true, true, true, true, true, true, true, true, true, true, true, true] 16 0 (by kernel_rfl) rfl ?_
    refine wpX_v 0 (.pointer (some ⟨g, 0, none⟩)) rfl rfl (by kernel_rfl) (by kernel_rfl) (by kernel_rfl) (fun _ _ _ _ h => h) (by kernel_rfl) rfl (by rfl) (fun W' hW => by
      obtain ⟨q0, q1, q2, _, _, _⟩ := blk3 ((((Ext.refl W).drew).trans hW).heap hB)
      go_simp) ?_
    simp only [List.setIfInBounds_toArray, List.set_cons_zero, List.set_cons_succ]
    refine wpX_v 1 (.pointer (some ⟨g, 0, none⟩)) rfl rfl (by kernel_rfl) (by kernel_rfl) (by kernel_rfl) (fun _ _ _ _ h => h) (by kernel_rfl) rfl (by rfl) (fun W' hW => by
      obtain ⟨q0, q1, q2, _, _, _⟩ := blk3 ((((Ext.refl W).drew).trans hW).heap hB)
      go_simp) ?_
    simp only [List.setIfInBounds_toArray, List.set_cons_zero, List.set_cons_succ]
    refine wpX_v 2 (.pointer (some ⟨g, 0, none⟩)) rfl rfl (by kernel_rfl) (by kernel_rfl) (by kernel_rfl) (fun _ _ _ _ h => h) (by kernel_rfl) rfl (by rfl) (fun W' hW => by
      obtain ⟨q0, q1, q2, _, _, _⟩ := blk3 ((((Ext.refl W).drew).trans hW).heap hB)
      go_simp) ?_
    simp only [List.setIfInBounds_toArray, List.set_cons_zero, List.set_cons_succ]
    refine wpX_v 3 (.slice A b.length c) rfl rfl (by kernel_rfl) (by kernel_rfl) (by kernel_rfl) (fun _ _ _ _ h => h) (by kernel_rfl) rfl (by rfl) (fun W' hW => by
      obtain ⟨q0, q1, q2, _, _, _⟩ := blk3 ((((Ext.refl W).drew).trans hW).heap hB)
      go_simp) ?_
    simp only [List.setIfInBounds_toArray, List.set_cons_zero, List.set_cons_succ]
    refine wpX_v 4 (.pointer (some ⟨g, 0, none⟩)) rfl rfl (by kernel_rfl) (by kernel_rfl) (by kernel_rfl) (fun _ _ _ _ h => h) (by kernel_rfl) rfl (by rfl) (fun W' hW => by
      obtain ⟨q0, q1, q2, _, _, _⟩ := blk3 ((((Ext.refl W).drew).trans hW).heap hB)
      go_simp) ?_
    simp only [List.setIfInBounds_toArray, List.set_cons_zero, List.set_cons_succ]
    refine wpX_v 5 (.pointer (some ⟨g, 0, none⟩)) rfl rfl (by kernel_rfl) (by kernel_rfl) (by kernel_rfl) (fun _ _ _ _ h => h) (by kernel_rfl) rfl (by rfl) (fun W' hW => by
      obtain ⟨q0, q1, q2, _, _, _⟩ := blk3 ((((Ext.refl W).drew).trans hW).heap hB)
      go_simp) ?_
    simp only [List.setIfInBounds_toArray, List.set_cons_zero, List.set_cons_succ]
    refine wpX_v 6 (.pointer (some ⟨g, 1, none⟩)) rfl rfl (by kernel_rfl) (by kernel_rfl) (by kernel_rfl) (fun _ _ _ _ h => h) (by kernel_rfl) rfl (by rfl) (fun W' hW => by
      obtain ⟨q0, q1, q2, _, _, _⟩ := blk3 ((((Ext.refl W).drew).trans hW).heap hB)
      go_simp) ?_
    simp only [List.setIfInBounds_toArray, List.set_cons_zero, List.set_cons_succ]
    refine wpX_v 7 (.int .i64 p) rfl rfl (by kernel_rfl) (by kernel_rfl) (by kernel_rfl) (fun _ _ _ _ h => h) (by kernel_rfl) rfl (by rfl) (fun W' hW => by
      obtain ⟨q0, q1, q2, _, _, _⟩ := blk3 ((((Ext.refl W).drew).trans hW).heap hB)
      go_simp) ?_
    simp only [List.setIfInBounds_toArray, List.set_cons_zero, List.set_cons_succ]
    refine wpX_c 8 68 #[.slice A b.length c, .int .i64 p] rfl rfl (by kernel_rfl) rfl rfl (fun W => by go_simp) ?_
    intro W1 hW1
    have hX1 := ((Ext.refl W).drew).trans hW1
    refine (Int_any _ b p W1 (hS.inb.ext (hS.ext.trans hX1)) hl).mono ?_
    rintro e w2 ⟨rfl, he2⟩
    skip
    refine ⟨_, rfl, he2, ?_⟩
    simp only [List.setIfInBounds_toArray, List.set_cons_zero, List.set_cons_succ]
    obtain ⟨⟨v, nx, er⟩, hv⟩ : ∃ r, r = intR b p := ⟨_, rfl⟩
    rw [← hv] at HR ⊢
    clear hv
    simp only at HR ⊢
    have hX2 := hX1.trans he2
    refine wpX_v 9 (.tuple #[.int .i64 v, .int .i64 nx, .int .i64 er]) rfl rfl (by kernel_rfl) (by kernel_rfl) (by kernel_rfl) (fun _ _ _ _ h => h) (by kernel_rfl) rfl (by rfl) (fun W' hW => by
      skip
      go_simp) ?_
    simp only [List.setIfInBounds_toArray, List.set_cons_zero, List.set_cons_succ]
    refine wpX_v 10 (.int .i64 v) rfl rfl (by kernel_rfl) (by kernel_rfl) (by kernel_rfl) (fun _ _ _ _ h => h) (by kernel_rfl) rfl (by rfl) (fun W' hW => by
      skip
      go_simp) ?_
    simp only [List.setIfInBounds_toArray, List.set_cons_zero, List.set_cons_succ]
    refine wpX_v 11 (.int .i64 nx) rfl rfl (by kernel_rfl) (by kernel_rfl) (by kernel_rfl) (fun _ _ _ _ h => h) (by kernel_rfl) rfl (by rfl) (fun W' hW => by
      skip
      go_simp) ?_
    simp only [List.setIfInBounds_toArray, List.set_cons_zero, List.set_cons_succ]
    refine wpX_v 12 (.int .i64 er) rfl rfl (by kernel_rfl) (by kernel_rfl) (by kernel_rfl) (fun _ _ _ _ h => h) (by kernel_rfl) rfl (by rfl) (fun W' hW => by
      skip
      go_simp) ?_
    simp only [List.setIfInBounds_toArray, List.set_cons_zero, List.set_cons_succ]
    refine wpX_v 13 (.int .i64 v) rfl rfl (by kernel_rfl) (by kernel_rfl) (by kernel_rfl) (fun _ _ _ _ h => h) (by kernel_rfl) rfl (by rfl) (fun W' hW => by
      skip
      go_simp) ?_
    simp only [List.setIfInBounds_toArray, List.set_cons_zero, List.set_cons_succ]
    refine wpX_v 14 (.int .i64 nx) rfl rfl (by kernel_rfl) (by kernel_rfl) (by kernel_rfl) (fun _ _ _ _ h => h) (by kernel_rfl) rfl (by rfl) (fun W' hW => by
      skip
      go_simp) ?_
    simp only [List.setIfInBounds_toArray, List.set_cons_zero, List.set_cons_succ]
    refine wpX_v 15 (.int .i64 er) rfl rfl (by kernel_rfl) (by kernel_rfl) (by kernel_rfl) (fun _ _ _ _ h => h) (by kernel_rfl) rfl (by rfl) (fun W' hW => by
      skip
      go_simp) ?_
    simp only [List.setIfInBounds_toArray, List.set_cons_zero, List.set_cons_succ]
    refine wpX_end rfl fun W3 hW3 => tail_none (by kernel_rfl) ?_
    refine NoPanic.normal ?_
    have hX3 := hX2.trans hW3
    have hB3 := hX3.heap hB
    obtain ⟨q0, q1, q2, f0, f1, f2⟩ := blk3 hB3
    have hlt3 := World.block_lt_of_cell? _ _ q0
    simp only at hlt3
    by_cases h0 : er = 0
    · have e0 : (er == 0) = true := by simpa using h0
      have H0 := Lib.hid h0
      clear h0
      go_wp2_with fail
      go_ret
      rw [HR.out, if_pos H0.out]
      exact ⟨rfl, (hS.grow hX3).put (p := nx) (bad := false) (gset _ _ _) (blk_set hB3 1 _), gtrans (hX3.grownBy _) (gset _ _ _)⟩
    · have e0 : (er == 0) = false := by simpa using h0
      have H0 := Lib.hid h0
      clear h0
      go_wp2_with fail
      go_ret
      rw [HR.out, if_neg H0.out]
      exact ⟨rfl, (hS.grow hX3).put (p := p) (bad := true) (gset _ _ _) (blk_set hB3 2 _), gtrans (hX3.grownBy _) (gset _ _ _)⟩

set_option maxHeartbeats 4000000 in
set_option maxRecDepth 100000 in
theorem rdCount_any (w0 W : World) (g : Nat) (y : Value) (b : List UInt8) (st : Option Int) (most : Int) (hS : RS 76 w0 W g y b st) (hl : b.length ≤ 4294967296) :
    Calls Try.prog 54 #[.pointer (some ⟨g, 0, none⟩), .int .i64 most] W (NumPost 76 w0 W g y b (cntR b most st)) := by
  obtain ⟨p, bad, hB, rfl⟩ := id hS.blk
  obtain ⟨q0, q1, q2, f0, f1, f2⟩ := blk3 hB
  have hlt := World.block_lt_of_cell? _ _ q0
  simp only at hlt
  obtain ⟨A, c, rfl, _, _⟩ := id hS.inb
  cases bad with
  | true =>
    go_enter Try.func54, Try.ntmps54
    go_wp2_with fail
    go_ret
    exact ⟨rfl, hS, (Ext.refl W).grownBy _⟩
  | false =>
    go_enter Try.func54, Try.ntmps54
    go_wp2_with fail
    clear q0 q1 q2 f0 f1 f2
    have HR : Hid (cntR b most (stO false p) = if (uintR b p).2.2 = 0 ∧ (uintR b p).1 ≤ most then ((uintR b p).1, some (uintR b p).2.1) else (0, none)) := Lib.hid rfl
    refine wp_region_X #[true, true, true, true, true, true, true, true, true, true, true, true, true, true, true, true] 16 0 (by kernel_rfl) rfl ?_
    refine wpX_v 0 (.pointer (some ⟨g, 0, none⟩)) rfl rfl (by kernel_rfl) (by kernel_rfl) (by kernel_rfl) (fun _ _ _ _ h => h) (by kernel_rfl) rfl (by rfl) (fun W' hW => by
      obtain ⟨q0, q1, q2, _, _, _⟩ := blk3 ((((Ext.refl W).drew).trans hW).heap hB)
      go_simp) ?_
    simp only [List.setIfInBounds_toArray, List.set_cons_zero, List.set_cons_succ]
    refine wpX_v 1 (.pointer (some ⟨g, 0, none⟩)) rfl rfl (by kernel_rfl) (by kernel_rfl) (by kernel_rfl) (fun _ _ _ _ h => h) (by kernel_rfl) rfl (by rfl) (fun W' hW => by
      obtain ⟨q0, q1, q2, _, _, _⟩ := blk3 ((((Ext.refl W).drew).trans hW).heap hB)
      go_simp) ?_
    simp only [List.setIfInBounds_toArray, List.set_cons_zero, List.set_cons_succ]
    refine wpX_v 2 (.pointer (some ⟨g, 0, none⟩)) rfl rfl (by kernel_rfl) (by kernel_rfl) (by kernel_rfl) (fun _ _ _ _ h => h) (by kernel_rfl) rfl (by rfl) (fun W' hW => by
      obtain ⟨q0, q1, q2, _, _, _⟩ := blk3 ((((Ext.refl W).drew).trans hW).heap hB)
      go_simp) ?_
    simp only [List.setIfInBounds_toArray, List.set_cons_zero, List.set_cons_succ]
    refine wpX_v 3 (.slice A b.length c) rfl rfl (by kernel_rfl) (by kernel_rfl) (by kernel_rfl) (fun _ _ _ _ h => h) (by kernel_rfl) rfl (by rfl) (fun W' hW => by
      obtain ⟨q0, q1, q2, _, _, _⟩ := blk3 ((((Ext.refl W).drew).trans hW).heap hB)
      go_simp) ?_
    simp only [List.setIfInBounds_toArray, List.set_cons_zero, List.set_cons_succ]
    refine wpX_v 4 (.pointer (some ⟨g, 0, none⟩)) rfl rfl (by kernel_rfl) (by kernel_rfl) (by kernel_rfl) (fun _ _ _ _ h => h) (by kernel_rfl) rfl (by rfl) (fun W' hW => by
      obtain ⟨q0, q1, q2, _, _, _⟩ := blk3 ((((Ext.refl W).drew).trans hW).heap hB)
      go_simp) ?_
    simp only [List.setIfInBounds_toArray, List.set_cons_zero, List.set_cons_succ]
    refine wpX_v 5 (.pointer (some ⟨g, 0, none⟩)) rfl rfl (by kernel_rfl) (by kernel_rfl) (by kernel_rfl) (fun _ _ _ _ h => h) (by kernel_rfl) rfl (by rfl) (fun W' hW => by
      obtain ⟨q0, q1, q2, _, _, _⟩ := blk3 ((((Ext.refl W).drew).trans hW).heap hB)
      go_simp) ?_
    simp only [List.setIfInBounds_toArray, List.set_cons_zero, List.set_cons_succ]
    refine wpX_v 6 (.pointer (some ⟨g, 1, none⟩)) rfl rfl (by kernel_rfl) (by kernel_rfl) (by kernel_rfl) (fun _ _ _ _ h => h) (by kernel_rfl) rfl (by rfl) (fun W' hW => by
      obtain ⟨q0, q1, q2, _, _, _⟩ := blk3 ((((Ext.refl W).drew).trans hW).heap hB)
      go_simp) ?_
    simp only [List.setIfInBounds_toArray, List.set_cons_zero, List.set_cons_succ]
    refine wpX_v 7 (.int .i64 p) rfl rfl (by kernel_rfl) (by kernel_rfl) (by kernel_rfl) (fun _ _ _ _ h => h) (by kernel_rfl) rfl (by rfl) (fun W' hW => by
      obtain ⟨q0, q1, q2, _, _, _⟩ := blk3 ((((Ext.refl W).drew).trans hW).heap hB)
      go_simp) ?_
    simp only [List.setIfInBounds_toArray, List.set_cons_zero, List.set_cons_succ]
    refine wpX_c 8 65 #[.slice A b.length c, .int .i64 p] rfl rfl (by kernel_rfl) rfl rfl (fun W => by go_simp) ?_
    intro W1 hW1
    have hX1 := ((Ext.refl W).drew).trans hW1
    refine (Uint_any _ b p W1 (hS.inb.ext (hS.ext.trans hX1)) hl).mono ?_
    rintro e w2 ⟨rfl, he2⟩
    skip
    refine ⟨_, rfl, he2, ?_⟩
    simp only [List.setIfInBounds_toArray, List.set_cons_zero, List.set_cons_succ]
    obtain ⟨⟨v, nx, er⟩, hv⟩ : ∃ r, r = uintR b p := ⟨_, rfl⟩
    rw [← hv] at HR ⊢
    clear hv
    simp only at HR ⊢
    have hX2 := hX1.trans he2
    refine wpX_v 9 (.tuple #[.int .i64 v, .int .i64 nx, .int .i64 er]) rfl rfl (by kernel_rfl) (by kernel_rfl) (by kernel_rfl) (fun _ _ _ _ h => h) (by kernel_rfl) rfl (by rfl) (fun W' hW => by
      skip
      go_simp) ?_
    simp only [List.setIfInBounds_toArray, List.set_cons_zero, List.set_cons_succ]
    refine wpX_v 10 (.int .i64 v) rfl rfl (by kernel_rfl) (by kernel_rfl) (by kernel_rfl) (fun _ _ _ _ h => h) (by kernel_rfl) rfl (by rfl) (fun W' hW => by
      skip
      go_simp) ?_
    simp only [List.setIfInBounds_toArray, List.set_cons_zero, List.set_cons_succ]
    refine wpX_v 11 (.int .i64 nx) rfl rfl (by kernel_rfl) (by kernel_rfl) (by kernel_rfl) (fun _ _ _ _ h => h) (by kernel_rfl) rfl (by rfl) (fun W' hW => by
      skip
      go_simp) ?_
    simp only [List.setIfInBounds_toArray, List.set_cons_zero, List.set_cons_succ]
    refine wpX_v 12 (.int .i64 er) rfl rfl (by kernel_rfl) (by kernel_rfl) (by kernel_rfl) (fun _ _ _ _ h => h) (by kernel_rfl) rfl (by rfl) (fun W' hW => by
      skip
      go_simp) ?_
    simp only [List.setIfInBounds_toArray, List.set_cons_zero, List.set_cons_succ]
    refine wpX_v 13 (.int .i64 v) rfl rfl (by kernel_rfl) (by kernel_rfl) (by kernel_rfl) (fun _ _ _ _ h => h) (by kernel_rfl) rfl (by rfl) (fun W' hW => by
      skip
      go_simp) ?_
    simp only [List.setIfInBounds_toArray, List.set_cons_zero, List.set_cons_succ]
    refine wpX_v 14 (.int .i64 nx) rfl rfl (by kernel_rfl) (by kernel_rfl) (by kernel_rfl) (fun _ _ _ _ h => h) (by kernel_rfl) rfl (by rfl) (fun W' hW => by
      skip
      go_simp) ?_
    simp only [List.setIfInBounds_toArray, List.set_cons_zero, List.set_cons_succ]
    refine wpX_v 15 (.int .i64 er) rfl rfl (by kernel_rfl) (by kernel_rfl) (by kernel_rfl) (fun _ _ _ _ h => h) (by kernel_rfl) rfl (by rfl) (fun W' hW => by
      skip
      go_simp) ?_
    simp only [List.setIfInBounds_toArray, List.set_cons_zero, List.set_cons_succ]
    refine wpX_end rfl fun W3 hW3 => tail_none (by kernel_rfl) ?_
    refine NoPanic.normal ?_
    have hX3 := hX2.trans hW3
    have hB3 := hX3.heap hB
    obtain ⟨q0, q1, q2, f0, f1, f2⟩ := blk3 hB3
    have hlt3 := World.block_lt_of_cell? _ _ q0
    simp only at hlt3
    by_cases h0 : er = 0
    · have e0 : (er == 0) = true := by simpa using h0
      have H0 := Lib.hid h0
      clear h0
      by_cases h1 : most < v
      · have e1 : decide (most < v) = true := by simpa using h1
        have H1 := Lib.hid h1
        go_wp2_with fail
        go_ret
        rw [HR.out, if_neg (fun h => by have := H1.out; have := h.2; omega)]
        exact ⟨rfl, (hS.grow hX3).put (p := p) (bad := true) (gset _ _ _) (blk_set hB3 2 _), gtrans (hX3.grownBy _) (gset _ _ _)⟩
      · have e1 : decide (most < v) = false := by simpa using h1
        have H1 := Lib.hid h1
        go_wp2_with fail
        go_ret
        rw [HR.out, if_pos ⟨H0.out, by have := H1.out; omega⟩]
        exact ⟨rfl, (hS.grow hX3).put (p := nx) (bad := false) (gset _ _ _) (blk_set hB3 1 _), gtrans (hX3.grownBy _) (gset _ _ _)⟩
    · have e0 : (er == 0) = false := by simpa using h0
      have H0 := Lib.hid h0
      clear h0
      go_wp2_with fail
      go_ret
      rw [HR.out, if_neg (fun h => H0.out h.1)]
      exact ⟨rfl, (hS.grow hX3).put (p := p) (bad := true) (gset _ _ _) (blk_set hB3 2 _), gtrans (hX3.grownBy _) (gset _ _ _)⟩

set_option maxHeartbeats 4000000 in
set_option maxRecDepth 100000 in
theorem rfInt_any (w0 W : World) (g : Nat) (y : Value) (b : List UInt8) (st : Option Int) (hS : RS 100 w0 W g y b st) (hl : b.length ≤ 4294967296) :
    Calls Try.prog 58 #[.pointer (some ⟨g, 0, none⟩)] W (NumPost 100 w0 W g y b (numR b st)) := by
  obtain ⟨p, bad, hB, rfl⟩ := id hS.blk
  obtain ⟨q0, q1, q2, f0, f1, f2⟩ := blk3 hB
  have hlt := World.block_lt_of_cell? _ _ q0
  simp only at hlt
  obtain ⟨A, c, rfl, _, _⟩ := id hS.inb
  go_enter Try.func58, Try.ntmps58
  go_wp2_with fail
  clear q0 q1 q2 f0 f1 f2
  cases bad with
  | true =>
    have HR : Hid (numR b (stO true p) = if (intR b p).2.2 = 0 then (0, none) else (0, none)) := Lib.hid (by split <;> rfl)
    refine wp_region_X #[true, true, true, true, true, true, true, true, true, true, true, true, true, true, true, true] 16 0 (by kernel_rfl) rfl ?_
    refine wpX_v 0 (.pointer (some ⟨g, 0, none⟩)) rfl rfl (by kernel_rfl) (by kernel_rfl) (by kernel_rfl) (fun _ _ _ _ h => h) (by kernel_rfl) rfl (by rfl) (fun W' hW => by
      obtain ⟨q0, q1, q2, _, _, _⟩ := blk3 ((((Ext.refl W).drew).trans hW).heap hB)
      go_simp) ?_
    simp only [List.setIfInBounds_toArray, List.set_cons_zero, List.set_cons_succ]
    refine wpX_v 1 (.pointer (some ⟨g, 0, none⟩)) rfl rfl (by kernel_rfl) (by kernel_rfl) (by kernel_rfl) (fun _ _ _ _ h => h) (by kernel_rfl) rfl (by rfl) (fun W' hW => by
      obtain ⟨q0, q1, q2, _, _, _⟩ := blk3 ((((Ext.refl W).drew).trans hW).heap hB)
      go_simp) ?_
    simp only [List.setIfInBounds_toArray, List.set_cons_zero, List.set_cons_succ]
    refine wpX_v 2 (.pointer (some ⟨g, 0, none⟩)) rfl rfl (by kernel_rfl) (by kernel_rfl) (by kernel_rfl) (fun _ _ _ _ h => h) (by kernel_rfl) rfl (by rfl) (fun W' hW => by
      obtain ⟨q0, q1, q2, _, _, _⟩ := blk3 ((((Ext.refl W).drew).trans hW).heap hB)
      go_simp) ?_
    simp only [List.setIfInBounds_toArray, List.set_cons_zero, List.set_cons_succ]
    refine wpX_v 3 (.slice A b.length c) rfl rfl (by kernel_rfl) (by kernel_rfl) (by kernel_rfl) (fun _ _ _ _ h => h) (by kernel_rfl) rfl (by rfl) (fun W' hW => by
      obtain ⟨q0, q1, q2, _, _, _⟩ := blk3 ((((Ext.refl W).drew).trans hW).heap hB)
      go_simp) ?_
    simp only [List.setIfInBounds_toArray, List.set_cons_zero, List.set_cons_succ]
    refine wpX_v 4 (.pointer (some ⟨g, 0, none⟩)) rfl rfl (by kernel_rfl) (by kernel_rfl) (by kernel_rfl) (fun _ _ _ _ h => h) (by kernel_rfl) rfl (by rfl) (fun W' hW => by
      obtain ⟨q0, q1, q2, _, _, _⟩ := blk3 ((((Ext.refl W).drew).trans hW).heap hB)
      go_simp) ?_
    simp only [List.setIfInBounds_toArray, List.set_cons_zero, List.set_cons_succ]
    refine wpX_v 5 (.pointer (some ⟨g, 0, none⟩)) rfl rfl (by kernel_rfl) (by kernel_rfl) (by kernel_rfl) (fun _ _ _ _ h => h) (by kernel_rfl) rfl (by rfl) (fun W' hW => by
      obtain ⟨q0, q1, q2, _, _, _⟩ := blk3 ((((Ext.refl W).drew).trans hW).heap hB)
      go_simp) ?_
    simp only [List.setIfInBounds_toArray, List.set_cons_zero, List.set_cons_succ]
    refine wpX_v 6 (.pointer (some ⟨g, 1, none⟩)) rfl rfl (by kernel_rfl) (by kernel_rfl) (by kernel_rfl) (fun _ _ _ _ h => h) (by kernel_rfl) rfl (by rfl) (fun W' hW => by
      obtain ⟨q0, q1, q2, _, _, _⟩ := blk3 ((((Ext.refl W).drew).trans hW).heap hB)
      go_simp) ?_
    simp only [List.setIfInBounds_toArray, List.set_cons_zero, List.set_cons_succ]
    refine wpX_v 7 (.int .i64 p) rfl rfl (by kernel_rfl) (by kernel_rfl) (by kernel_rfl) (fun _ _ _ _ h => h) (by kernel_rfl) rfl (by rfl) (fun W' hW => by
      obtain ⟨q0, q1, q2, _, _, _⟩ := blk3 ((((Ext.refl W).drew).trans hW).heap hB)
      go_simp) ?_
    simp only [List.setIfInBounds_toArray, List.set_cons_zero, List.set_cons_succ]
    refine wpX_c 8 69 #[.slice A b.length c, .int .i64 p] rfl rfl (by kernel_rfl) rfl rfl (fun W => by go_simp) ?_
    intro W1 hW1
    have hX1 := ((Ext.refl W).drew).trans hW1
    refine (refInt_any _ b p W1 (hS.inb.ext (hS.ext.trans hX1)) hl).mono ?_
    rintro e w2 ⟨rfl, rfl⟩
    have he2 := Ext.refl W1
    refine ⟨_, rfl, he2, ?_⟩
    simp only [List.setIfInBounds_toArray, List.set_cons_zero, List.set_cons_succ]
    obtain ⟨⟨v, nx, er⟩, hv⟩ : ∃ r, r = intR b p := ⟨_, rfl⟩
    rw [← hv] at HR ⊢
    clear hv
    simp only at HR ⊢
    have hX2 := hX1.trans he2
    refine wpX_v 9 (.tuple #[.int .i64 v, .int .i64 nx, .int .i64 er]) rfl rfl (by kernel_rfl) (by kernel_rfl) (by kernel_rfl) (fun _ _ _ _ h => h) (by kernel_rfl) rfl (by rfl) (fun W' hW => by
      skip
      go_simp) ?_
    simp only [List.setIfInBounds_toArray, List.set_cons_zero, List.set_cons_succ]
    refine wpX_v 10 (.int .i64 v) rfl rfl (by kernel_rfl) (by kernel_rfl) (by kernel_rfl) (fun _ _ _ _ h => h) (by kernel_rfl) rfl (by rfl) (fun W' hW => by
      skip
      go_simp) ?_
    simp only [List.setIfInBounds_toArray, List.set_cons_zero, List.set_cons_succ]
    refine wpX_v 11 (.int .i64 nx) rfl rfl (by kernel_rfl) (by kernel_rfl) (by kernel_rfl) (fun _ _ _ _ h => h) (by kernel_rfl) rfl (by rfl) (fun W' hW => by
      skip
      go_simp) ?_
    simp only [List.setIfInBounds_toArray, List.set_cons_zero, List.set_cons_succ]
    refine wpX_v 12 (.int .i64 er) rfl rfl (by kernel_rfl) (by kernel_rfl) (by kernel_rfl) (fun _ _ _ _ h => h) (by kernel_rfl) rfl (by rfl) (fun W' hW => by
      skip
      go_simp) ?_
    simp only [List.setIfInBounds_toArray, List.set_cons_zero, List.set_cons_succ]
    refine wpX_v 13 (.int .i64 v) rfl rfl (by kernel_rfl) (by kernel_rfl) (by kernel_rfl) (fun _ _ _ _ h => h) (by kernel_rfl) rfl (by rfl) (fun W' hW => by
      skip
      go_simp) ?_
    simp only [List.setIfInBounds_toArray, List.set_cons_zero, List.set_cons_succ]
    refine wpX_v 14 (.int .i64 nx) rfl rfl (by kernel_rfl) (by kernel_rfl) (by kernel_rfl) (fun _ _ _ _ h => h) (by kernel_rfl) rfl (by rfl) (fun W' hW => by
      skip
      go_simp) ?_
    simp only [List.setIfInBounds_toArray, List.set_cons_zero, List.set_cons_succ]
    refine wpX_v 15 (.int .i64 er) rfl rfl (by kernel_rfl) (by kernel_rfl) (by kernel_rfl) (fun _ _ _ _ h => h) (by kernel_rfl) rfl (by rfl) (fun W' hW => by
      skip
      go_simp) ?_
    simp only [List.setIfInBounds_toArray, List.set_cons_zero, List.set_cons_succ]
    refine wpX_end rfl fun W3 hW3 => tail_none (by kernel_rfl) ?_
    refine NoPanic.normal ?_
    have hX3 := hX2.trans hW3
    have hB3 := hX3.heap hB
    obtain ⟨q0, q1, q2, f0, f1, f2⟩ := blk3 hB3
    have hlt3 := World.block_lt_of_cell? _ _ q0
    simp only at hlt3
    clear HR
    go_wp2_with fail
    go_ret
    exact ⟨rfl, (hS.grow hX3).put (p := p) (bad := true) (gset _ _ _) (blk_set hB3 2 _), gtrans (hX3.grownBy _) (gset _ _ _)⟩
  | false =>
    have HR : Hid (numR b (stO false p) = if (intR b p).2.2 = 0 then ((intR b p).1, some (intR b p).2.1) else (0, none)) := Lib.hid rfl
    refine wp_region_X #[true, true, true, true, true, true, true, true, true, true, true, true, true, true, true, true] 16 0 (by kernel_rfl) rfl ?_
    refine wpX_v 0 (.pointer (some ⟨g, 0, none⟩)) rfl rfl (by kernel_rfl) (by kernel_rfl) (by kernel_rfl) (fun _ _ _ _ h => h) (by kernel_rfl) rfl (by rfl) (fun W' hW => by
      obtain ⟨q0, q1, q2, _, _, _⟩ := blk3 ((((Ext.refl W).drew).trans hW).heap hB)
      go_simp) ?_
    simp only [List.setIfInBounds_toArray, List.set_cons_zero, List.set_cons_succ]
    refine wpX_v 1 (.pointer (some ⟨g, 0, none⟩)) rfl rfl (by kernel_rfl) (by kernel_rfl) (by kernel_rfl) (fun _ _ _ _ h => h) (by kernel_rfl) rfl (by rfl) (fun W' hW => by
      obtain ⟨q0, q1, q2, _, _, _⟩ := blk3 ((((Ext.refl W).drew).trans hW).heap hB)
      go_simp) ?_
    simp only [List.setIfInBounds_toArray, List.set_cons_zero, List.set_cons_succ]
    refine wpX_v 2 (.pointer (some ⟨g, 0, none⟩)) rfl rfl (by kernel_rfl) (by kernel_rfl) (by kernel_rfl) (fun _ _ _ _ h => h) (by kernel_rfl) rfl (by rfl) (fun W' hW => by
      obtain ⟨q0, q1, q2, _, _, _⟩ := blk3 ((((Ext.refl W).drew).trans hW).heap hB)
      go_simp) ?_
    simp only [List.setIfInBounds_toArray, List.set_cons_zero, List.set_cons_succ]
    refine wpX_v 3 (.slice A b.length c) rfl rfl (by kernel_rfl) (by kernel_rfl) (by kernel_rfl) (fun _ _ _ _ h => h) (by kernel_rfl) rfl (by rfl) (fun W' hW => by
      obtain ⟨q0, q1, q2, _, _, _⟩ := blk3 ((((Ext.refl W).drew).trans hW).heap hB)
      go_simp) ?_
    simp only [List.setIfInBounds_toArray, List.set_cons_zero, List.set_cons_succ]
    refine wpX_v 4 (.pointer (some ⟨g, 0, none⟩)) rfl rfl (by kernel_rfl) (by kernel_rfl) (by kernel_rfl) (fun _ _ _ _ h => h) (by kernel_rfl) rfl (by rfl) (fun W' hW => by
      obtain ⟨q0, q1, q2, _, _, _⟩ := blk3 ((((Ext.refl W).drew).trans hW).heap hB)
      go_simp) ?_
    simp only [List.setIfInBounds_toArray, List.set_cons_zero, List.set_cons_succ]
    refine wpX_v 5 (.pointer (some ⟨g, 0, none⟩)) rfl rfl (by kernel_rfl) (by kernel_rfl) (by kernel_rfl) (fun _ _ _ _ h => h) (by kernel_rfl) rfl (by rfl) (fun W' hW => by
      obtain ⟨q0, q1, q2, _, _, _⟩ := blk3 ((((Ext.refl W).drew).trans hW).heap hB)
      go_simp) ?_
    simp only [List.setIfInBounds_toArray, List.set_cons_zero, List.set_cons_succ]
    refine wpX_v 6 (.pointer (some ⟨g, 1, none⟩)) rfl rfl (by kernel_rfl) (by kernel_rfl) (by kernel_rfl) (fun _ _ _ _ h => h) (by kernel_rfl) rfl (by rfl) (fun W' hW => by
      obtain ⟨q0, q1, q2, _, _, _⟩ := blk3 ((((Ext.refl W).drew).trans hW).heap hB)
      go_simp) ?_
    simp only [List.setIfInBounds_toArray, List.set_cons_zero, List.set_cons_succ]
    refine wpX_v 7 (.int .i64 p) rfl rfl (by kernel_rfl) (by kernel_rfl) (by kernel_rfl) (fun _ _ _ _ h => h) (by kernel_rfl) rfl (by rfl) (fun W' hW => by
      obtain ⟨q0, q1, q2, _, _, _⟩ := blk3 ((((Ext.refl W).drew).trans hW).heap hB)
      go_simp) ?_
    simp only [List.setIfInBounds_toArray, List.set_cons_zero, List.set_cons_succ]
    refine wpX_c 8 69 #[.slice A b.length c, .int .i64 p] rfl rfl (by kernel_rfl) rfl rfl (fun W => by go_simp) ?_
    intro W1 hW1
    have hX1 := ((Ext.refl W).drew).trans hW1
    refine (refInt_any _ b p W1 (hS.inb.ext (hS.ext.trans hX1)) hl).mono ?_
    rintro e w2 ⟨rfl, rfl⟩
    have he2 := Ext.refl W1
    refine ⟨_, rfl, he2, ?_⟩
    simp only [List.setIfInBounds_toArray, List.set_cons_zero, List.set_cons_succ]
    obtain ⟨⟨v, nx, er⟩, hv⟩ : ∃ r, r = intR b p := ⟨_, rfl⟩
    rw [← hv] at HR ⊢
    clear hv
    simp only at HR ⊢
    have hX2 := hX1.trans he2
    refine wpX_v 9 (.tuple #[.int .i64 v, .int .i64 nx, .int .i64 er]) rfl rfl (by kernel_rfl) (by kernel_rfl) (by kernel_rfl) (fun _ _ _ _ h => h) (by kernel_rfl) rfl (by rfl) (fun W' hW => by
      skip
      go_simp) ?_
    simp only [List.setIfInBounds_toArray, List.set_cons_zero, List.set_cons_succ]
    refine wpX_v 10 (.int .i64 v) rfl rfl (by kernel_rfl) (by kernel_rfl) (by kernel_rfl) (fun _ _ _ _ h => h) (by kernel_rfl) rfl (by rfl) (fun W' hW => by
      skip
      go_simp) ?_
    simp only [List.setIfInBounds_toArray, List.set_cons_zero, List.set_cons_succ]
    refine wpX_v 11 (.int .i64 nx) rfl rfl (by kernel_rfl) (by kernel_rfl) (by kernel_rfl) (fun _ _ _ _ h => h) (by kernel_rfl) rfl (by rfl) (fun W' hW => by
      skip
      go_simp) ?_
    simp only [List.setIfInBounds_toArray, List.set_cons_zero, List.set_cons_succ]
    refine wpX_v 12 (.int .i64 er) rfl rfl (by kernel_rfl) (by kernel_rfl) (by kernel_rfl) (fun _ _ _ _ h => h) (by kernel_rfl) rfl (by rfl) (fun W' hW => by
      skip
      go_simp) ?_
    simp only [List.setIfInBounds_toArray, List.set_cons_zero, List.set_cons_succ]
    refine wpX_v 13 (.int .i64 v) rfl rfl (by kernel_rfl) (by kernel_rfl) (by kernel_rfl) (fun _ _ _ _ h => h) (by kernel_rfl) rfl (by rfl) (fun W' hW => by
      skip
      go_simp) ?_
    simp only [List.setIfInBounds_toArray, List.set_cons_zero, List.set_cons_succ]
    refine wpX_v 14 (.int .i64 nx) rfl rfl (by kernel_rfl) (by kernel_rfl) (by kernel_rfl) (fun _ _ _ _ h => h) (by kernel_rfl) rfl (by rfl) (fun W' hW => by
      skip
      go_simp) ?_
    simp only [List.setIfInBounds_toArray, List.set_cons_zero, List.set_cons_succ]
    refine wpX_v 15 (.int .i64 er) rfl rfl (by kernel_rfl) (by kernel_rfl) (by kernel_rfl) (fun _ _ _ _ h => h) (by kernel_rfl) rfl (by rfl) (fun W' hW => by
      skip
      go_simp) ?_
    simp only [List.setIfInBounds_toArray, List.set_cons_zero, List.set_cons_succ]
    refine wpX_end rfl fun W3 hW3 => tail_none (by kernel_rfl) ?_
    refine NoPanic.normal ?_
    have hX3 := hX2.trans hW3
    have hB3 := hX3.heap hB
    obtain ⟨q0, q1, q2, f0, f1, f2⟩ := blk3 hB3
    have hlt3 := World.block_lt_of_cell? _ _ q0
    simp only at hlt3
    by_cases h0 : er = 0
    · have e0 : (er == 0) = true := by simpa using h0
      have H0 := Lib.hid h0
      clear h0
      go_wp2_with fail
      go_ret
      rw [HR.out, if_pos H0.out]
      exact ⟨rfl, (hS.grow hX3).put (p := nx) (bad := false) (gset _ _ _) (blk_set hB3 1 _), gtrans (hX3.grownBy _) (gset _ _ _)⟩
    · have e0 : (er == 0) = false := by simpa using h0
      have H0 := Lib.hid h0
      clear h0
      go_wp2_with fail
      go_ret
      rw [HR.out, if_neg H0.out]
      exact ⟨rfl, (hS.grow hX3).put (p := p) (bad := true) (gset _ _ _) (blk_set hB3 2 _), gtrans (hX3.grownBy _) (gset _ _ _)⟩
set_option maxHeartbeats 4000000 in
set_option maxRecDepth 100000 in
theorem rfUint_any (w0 W : World) (g : Nat) (y : Value) (b : List UInt8) (st : Option Int) (hS : RS 100 w0 W g y b st) (hl : b.length ≤ 4294967296) :
    Calls Try.prog 59 #[.pointer (some ⟨g, 0, none⟩)] W (NumPost 100 w0 W g y b (uR b st)) := by
  obtain ⟨p, bad, hB, rfl⟩ := id hS.blk
  obtain ⟨q0, q1, q2, f0, f1, f2⟩ := blk3 hB
  have hlt := World.block_lt_of_cell? _ _ q0
  simp only at hlt
  obtain ⟨A, c, rfl, _, _⟩ := id hS.inb
  go_enter Try.func59, Try.ntmps59
  go_wp2_with fail
  clear q0 q1 q2 f0 f1 f2
  cases bad with
  | true =>
    have HR : Hid (uR b (stO true p) = if (uintR b p).2.2 = 0 then (0, none) else (0, none)) := Lib.hid (by split <;> rfl)
    refine wp_region_X #[true, true, true, true, true, true, true, true, true, true, true, true, true, true, true, true] 16 0 (by kernel_rfl) rfl ?_
    refine wpX_v 0 (.pointer (some ⟨g, 0, none⟩)) rfl rfl (by kernel_rfl) (by kernel_rfl) (by kernel_rfl) (fun _ _ _ _ h => h) (by kernel_rfl) rfl (by rfl) (fun W' hW => by
      obtain ⟨q0, q1, q2, _, _, _⟩ := blk3 ((((Ext.refl W).drew).trans hW).heap hB)
      go_simp) ?_
    simp only [List.setIfInBounds_toArray, List.set_cons_zero, List.set_cons_succ]
    refine wpX_v 1 (.pointer (some ⟨g, 0, none⟩)) rfl rfl (by kernel_rfl) (by kernel_rfl) (by kernel_rfl) (fun _ _ _ _ h => h) (by kernel_rfl) rfl (by rfl) (fun W' hW => by
      obtain ⟨q0, q1, q2, _, _, _⟩ := blk3 ((((Ext.refl W).drew).trans hW).heap hB)
      go_simp) ?_
    simp only [List.setIfInBounds_toArray, List.set_cons_zero, List.set_cons_succ]
    refine wpX_v 2 (.pointer (some ⟨g, 0, none⟩)) rfl rfl (by kernel_rfl) (by kernel_rfl) (by kernel_rfl) (fun _ _ _ _ h => h) (by kernel_rfl) rfl (by rfl) (fun W' hW => by
      obtain ⟨q0, q1, q2, _, _, _⟩ := blk3 ((((Ext.refl W).drew).trans hW).heap hB)
      go_simp) ?_
    simp only [List.setIfInBounds_toArray, List.set_cons_zero, List.set_cons_succ]
    refine wpX_v 3 (.slice A b.length c) rfl rfl (by kernel_rfl) (by kernel_rfl) (by kernel_rfl) (fun _ _ _ _ h => h) (by kernel_rfl) rfl (by rfl) (fun W' hW => by
      obtain ⟨q0, q1, q2, _, _, _⟩ := blk3 ((((Ext.refl W).drew).trans hW).heap hB)
      go_simp) ?_
    simp only [List.setIfInBounds_toArray, List.set_cons_zero, List.set_cons_succ]
    refine wpX_v 4 (.pointer (some ⟨g, 0, none⟩)) rfl rfl (by kernel_rfl) (by kernel_rfl) (by kernel_rfl) (fun _ _ _ _ h => h) (by kernel_rfl) rfl (by rfl) (fun W' hW => by
      obtain ⟨q0, q1, q2, _, _, _⟩ := blk3 ((((Ext.refl W).drew).trans hW).heap hB)
      go_simp) ?_
    simp only [List.setIfInBounds_toArray, List.set_cons_zero, List.set_cons_succ]
    refine wpX_v 5 (.pointer (some ⟨g, 0, none⟩)) rfl rfl (by kernel_rfl) (by kernel_rfl) (by kernel_rfl) (fun _ _ _ _ h => h) (by kernel_rfl) rfl (by rfl) (fun W' hW => by
      obtain ⟨q0, q1, q2, _, _, _⟩ := blk3 ((((Ext.refl W).drew).trans hW).heap hB)
      go_simp) ?_
    simp only [List.setIfInBounds_toArray, List.set_cons_zero, List.set_cons_succ]
    refine wpX_v 6 (.pointer (some ⟨g, 1, none⟩)) rfl rfl (by kernel_rfl) (by kernel_rfl) (by kernel_rfl) (fun _ _ _ _ h => h) (by kernel_rfl) rfl (by rfl) (fun W' hW => by
      obtain ⟨q0, q1, q2, _, _, _⟩ := blk3 ((((Ext.refl W).drew).trans hW).heap hB)
      go_simp) ?_
    simp only [List.setIfInBounds_toArray, List.set_cons_zero, List.set_cons_succ]
    refine wpX_v 7 (.int .i64 p) rfl rfl (by kernel_rfl) (by kernel_rfl) (by kernel_rfl) (fun _ _ _ _ h => h) (by kernel_rfl) rfl (by rfl) (fun W' hW => by
      obtain ⟨q0, q1, q2, _, _, _⟩ := blk3 ((((Ext.refl W).drew).trans hW).heap hB)
      go_simp) ?_
    simp only [List.setIfInBounds_toArray, List.set_cons_zero, List.set_cons_succ]
    refine wpX_c 8 48 #[.slice A b.length c, .int .i64 p] rfl rfl (by kernel_rfl) rfl rfl (fun W => by go_simp) ?_
    intro W1 hW1
    have hX1 := ((Ext.refl W).drew).trans hW1
    refine (refUint_any _ b p W1 (hS.inb.ext (hS.ext.trans hX1)) hl).mono ?_
    rintro e w2 ⟨rfl, rfl⟩
    have he2 := Ext.refl W1
    refine ⟨_, rfl, he2, ?_⟩
    simp only [List.setIfInBounds_toArray, List.set_cons_zero, List.set_cons_succ]
    obtain ⟨⟨v, nx, er⟩, hv⟩ : ∃ r, r = uintR b p := ⟨_, rfl⟩
    rw [← hv] at HR ⊢
    clear hv
    simp only at HR ⊢
    have hX2 := hX1.trans he2
    refine wpX_v 9 (.tuple #[.int .i64 v, .int .i64 nx, .int .i64 er]) rfl rfl (by kernel_rfl) (by kernel_rfl) (by kernel_rfl) (fun _ _ _ _ h => h) (by kernel_rfl) rfl (by rfl) (fun W' hW => by
      skip
      go_simp) ?_
    simp only [List.setIfInBounds_toArray, List.set_cons_zero, List.set_cons_succ]
    refine wpX_v 10 (.int .i64 v) rfl rfl (by kernel_rfl) (by kernel_rfl) (by kernel_rfl) (fun _ _ _ _ h => h) (by kernel_rfl) rfl (by rfl) (fun W' hW => by
      skip
      go_simp) ?_
    simp only [List.setIfInBounds_toArray, List.set_cons_zero, List.set_cons_succ]
    refine wpX_v 11 (.int .i64 nx) rfl rfl (by kernel_rfl) (by kernel_rfl) (by kernel_rfl) (fun _ _ _ _ h => h) (by kernel_rfl) rfl (by rfl) (fun W' hW => by
      skip
      go_simp) ?_
    simp only [List.setIfInBounds_toArray, List.set_cons_zero, List.set_cons_succ]
    refine wpX_v 12 (.int .i64 er) rfl rfl (by kernel_rfl) (by kernel_rfl) (by kernel_rfl) (fun _ _ _ _ h => h) (by kernel_rfl) rfl (by rfl) (fun W' hW => by
      skip
      go_simp) ?_
    simp only [List.setIfInBounds_toArray, List.set_cons_zero, List.set_cons_succ]
    refine wpX_v 13 (.int .i64 v) rfl rfl (by kernel_rfl) (by kernel_rfl) (by kernel_rfl) (fun _ _ _ _ h => h) (by kernel_rfl) rfl (by rfl) (fun W' hW => by
      skip
      go_simp) ?_
    simp only [List.setIfInBounds_toArray, List.set_cons_zero, List.set_cons_succ]
    refine wpX_v 14 (.int .i64 nx) rfl rfl (by kernel_rfl) (by kernel_rfl) (by kernel_rfl) (fun _ _ _ _ h => h) (by kernel_rfl) rfl (by rfl) (fun W' hW => by
      skip
      go_simp) ?_
    simp only [List.setIfInBounds_toArray, List.set_cons_zero, List.set_cons_succ]
    refine wpX_v 15 (.int .i64 er) rfl rfl (by kernel_rfl) (by kernel_rfl) (by kernel_rfl) (fun _ _ _ _ h => h) (by kernel_rfl) rfl (by rfl) (fun W' hW => by
      skip
      go_simp) ?_
    simp only [List.setIfInBounds_toArray, List.set_cons_zero, List.set_cons_succ]
    refine wpX_end rfl fun W3 hW3 => tail_none (by kernel_rfl) ?_
    refine NoPanic.normal ?_
    have hX3 := hX2.trans hW3
    have hB3 := hX3.heap hB
    obtain ⟨q0, q1, q2, f0, f1, f2⟩ := blk3 hB3
    have hlt3 := World.block_lt_of_cell? _ _ q0
    simp only at hlt3
    clear HR
    go_wp2_with fail
    go_ret
    exact ⟨rfl, (hS.grow hX3).put (p := p) (bad := true) (gset _ _ _) (blk_set hB3 2 _), gtrans (hX3.grownBy _) (gset _ _ _)⟩
  | false =>
    have HR : Hid (uR b (stO false p) = if (uintR b p).2.2 = 0 then ((uintR b p).1, some (uintR b p).2.1) else (0, none)) := Lib.hid rfl
    refine wp_region_X #[true, true, true, true, true, true, true, true, true, true, true, true, true, true, true, true] 16 0 (by kernel_rfl) rfl ?_
    refine wpX_v 0 (.pointer (some ⟨g, 0, none⟩)) rfl rfl (by kernel_rfl) (by kernel_rfl) (by kernel_rfl) (fun _ _ _ _ h => h) (by kernel_rfl) rfl (by rfl) (fun W' hW => by
      obtain ⟨q0, q1, q2, _, _, _⟩ := blk3 ((((Ext.refl W).drew).trans hW).heap hB)
      go_simp) ?_
    simp only [List.setIfInBounds_toArray, List.set_cons_zero, List.set_cons_succ]
    refine wpX_v 1 (.pointer (some ⟨g, 0, none⟩)) rfl rfl (by kernel_rfl) (by kernel_rfl) (by kernel_rfl) (fun _ _ _ _ h => h) (by kernel_rfl) rfl (by rfl) (fun W' hW => by
      obtain ⟨q0, q1, q2, _, _, _⟩ := blk3 ((((Ext.refl W).drew).trans hW).heap hB)
      go_simp) ?_
    simp only [List.setIfInBounds_toArray, List.set_cons_zero, List.set_cons_succ]
    refine wpX_v 2 (.pointer (some ⟨g, 0, none⟩)) rfl rfl (by kernel_rfl) (by kernel_rfl) (by kernel_rfl) (fun _ _ _ _ h => h) (by kernel_rfl) rfl (by rfl) (fun W' hW => by
      obtain ⟨q0, q1, q2, _, _, _⟩ := blk3 ((((Ext.refl W).drew).trans hW).heap hB)
      go_simp) ?_
    simp only [List.setIfInBounds_toArray, List.set_cons_zero, List.set_cons_succ]
    refine wpX_v 3 (.slice A b.length c) rfl rfl (by kernel_rfl) (by kernel_rfl) (by kernel_rfl) (fun _ _ _ _ h => h) (by kernel_rfl) rfl (by rfl) (fun W' hW => by
      obtain ⟨q0, q1, q2, _, _, _⟩ := blk3 ((((Ext.refl W).drew).trans hW).heap hB)
      go_simp) ?_
    simp only [List.setIfInBounds_toArray, List.set_cons_zero, List.set_cons_succ]
    refine wpX_v 4 (.pointer (some ⟨g, 0, none⟩)) rfl rfl (by kernel_rfl) (by kernel_rfl) (by kernel_rfl) (fun _ _ _ _ h => h) (by kernel_rfl) rfl (by rfl) (fun W' hW => by
      obtain ⟨q0, q1, q2, _, _, _⟩ := blk3 ((((Ext.refl W).drew).trans hW).heap hB)
      go_simp) ?_
    simp only [List.setIfInBounds_toArray, List.set_cons_zero, List.set_cons_succ]
    refine wpX_v 5 (.pointer (some ⟨g, 0, none⟩)) rfl rfl (by kernel_rfl) (by kernel_rfl) (by kernel_rfl) (fun _ _ _ _ h => h) (by kernel_rfl) rfl (by rfl) (fun W' hW => by
      obtain ⟨q0, q1, q2, _, _, _⟩ := blk3 ((((Ext.refl W).drew).trans hW).heap hB)
      go_simp) ?_
    simp only [List.setIfInBounds_toArray, List.set_cons_zero, List.set_cons_succ]
    refine wpX_v 6 (.pointer (some ⟨g, 1, none⟩)) rfl rfl (by kernel_rfl) (by kernel_rfl) (by kernel_rfl) (fun _ _ _ _ h => h) (by kernel_rfl) rfl (by rfl) (fun W' hW => by
      obtain ⟨q0, q1, q2, _, _, _⟩ := blk3 ((((Ext.refl W).drew).trans hW).heap hB)
      go_simp) ?_
    simp only [List.setIfInBounds_toArray, List.set_cons_zero, List.set_cons_succ]
    refine wpX_v 7 (.int .i64 p) rfl rfl (by kernel_rfl) (by kernel_rfl) (by kernel_rfl) (fun _ _ _ _ h => h) (by kernel_rfl) rfl (by rfl) (fun W' hW => by
      obtain ⟨q0, q1, q2, _, _, _⟩ := blk3 ((((Ext.refl W).drew).trans hW).heap hB)
      go_simp) ?_
    simp only [List.setIfInBounds_toArray, List.set_cons_zero, List.set_cons_succ]
    refine wpX_c 8 48 #[.slice A b.length c, .int .i64 p] rfl rfl (by kernel_rfl) rfl rfl (fun W => by go_simp) ?_
    intro W1 hW1
    have hX1 := ((Ext.refl W).drew).trans hW1
    refine (refUint_any _ b p W1 (hS.inb.ext (hS.ext.trans hX1)) hl).mono ?_
    rintro e w2 ⟨rfl, rfl⟩
    have he2 := Ext.refl W1
    refine ⟨_, rfl, he2, ?_⟩
    simp only [List.setIfInBounds_toArray, List.set_cons_zero, List.set_cons_succ]
    obtain ⟨⟨v, nx, er⟩, hv⟩ : ∃ r, r = uintR b p := ⟨_, rfl⟩
    rw [← hv] at HR ⊢
    clear hv
    simp only at HR ⊢
    have hX2 := hX1.trans he2
    refine wpX_v 9 (.tuple #[.int .i64 v, .int .i64 nx, .int .i64 er]) rfl rfl (by kernel_rfl) (by kernel_rfl) (by kernel_rfl) (fun _ _ _ _ h => h) (by kernel_rfl) rfl (by rfl) (fun W' hW => by
      skip
      go_simp) ?_
    simp only [List.setIfInBounds_toArray, List.set_cons_zero, List.set_cons_succ]
    refine wpX_v 10 (.int .i64 v) rfl rfl (by kernel_rfl) (by kernel_rfl) (by kernel_rfl) (fun _ _ _ _ h => h) (by kernel_rfl) rfl (by rfl) (fun W' hW => by
      skip
      go_simp) ?_
    simp only [List.setIfInBounds_toArray, List.set_cons_zero, List.set_cons_succ]
    refine wpX_v 11 (.int .i64 nx) rfl rfl (by kernel_rfl) (by kernel_rfl) (by kernel_rfl) (fun _ _ _ _ h => h) (by kernel_rfl) rfl (by rfl) (fun W' hW => by
      skip
      go_simp) ?_
    simp only [List.setIfInBounds_toArray, List.set_cons_zero, List.set_cons_succ]
    refine wpX_v 12 (.int .i64 er) rfl rfl (by kernel_rfl) (by kernel_rfl) (by kernel_rfl) (fun _ _ _ _ h => h) (by kernel_rfl) rfl (by rfl) (fun W' hW => by
      skip
      go_simp) ?_
    simp only [List.setIfInBounds_toArray, List.set_cons_zero, List.set_cons_succ]
    refine wpX_v 13 (.int .i64 v) rfl rfl (by kernel_rfl) (by kernel_rfl) (by kernel_rfl) (fun _ _ _ _ h => h) (by kernel_rfl) rfl (by rfl) (fun W' hW => by
      skip
      go_simp) ?_
    simp only [List.setIfInBounds_toArray, List.set_cons_zero, List.set_cons_succ]
    refine wpX_v 14 (.int .i64 nx) rfl rfl (by kernel_rfl) (by kernel_rfl) (by kernel_rfl) (fun _ _ _ _ h => h) (by kernel_rfl) rfl (by rfl) (fun W' hW => by
      skip
      go_simp) ?_
    simp only [List.setIfInBounds_toArray, List.set_cons_zero, List.set_cons_succ]
    refine wpX_v 15 (.int .i64 er) rfl rfl (by kernel_rfl) (by kernel_rfl) (by kernel_rfl) (fun _ _ _ _ h => h) (by kernel_rfl) rfl (by rfl) (fun W' hW => by
      skip
      go_simp) ?_
    simp only [List.setIfInBounds_toArray, List.set_cons_zero, List.set_cons_succ]
    refine wpX_end rfl fun W3 hW3 => tail_none (by kernel_rfl) ?_
    refine NoPanic.normal ?_
    have hX3 := hX2.trans hW3
    have hB3 := hX3.heap hB
    obtain ⟨q0, q1, q2, f0, f1, f2⟩ := blk3 hB3
    have hlt3 := World.block_lt_of_cell? _ _ q0
    simp only at hlt3
    by_cases h0 : er = 0
    · have e0 : (er == 0) = true := by simpa using h0
      have H0 := Lib.hid h0
      clear h0
      go_wp2_with fail
      go_ret
      rw [HR.out, if_pos H0.out]
      exact ⟨rfl, (hS.grow hX3).put (p := nx) (bad := false) (gset _ _ _) (blk_set hB3 1 _), gtrans (hX3.grownBy _) (gset _ _ _)⟩
    · have e0 : (er == 0) = false := by simpa using h0
      have H0 := Lib.hid h0
      clear h0
      go_wp2_with fail
      go_ret
      rw [HR.out, if_neg H0.out]
      exact ⟨rfl, (hS.grow hX3).put (p := p) (bad := true) (gset _ _ _) (blk_set hB3 2 _), gtrans (hX3.grownBy _) (gset _ _ _)⟩
end Go.Proofs.Ytoeibcpjmoekpaa
