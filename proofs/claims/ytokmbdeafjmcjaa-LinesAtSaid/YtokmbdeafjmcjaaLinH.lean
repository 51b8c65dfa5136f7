/- The reader of Decode: one operation that changes one number. -/
import Derived.Test.YtokmbdeafjmcjaaLinG
namespace Go.Proofs.Ytokmbdeafjmcjaa
open Go.RowKit
set_option linter.unusedVariables false

def ChPost (gr gs : Nat) (x : Value) (next : Int) (s' : LRow) (w : World) (en : Ending) (w' : World) : Prop :=
  en = .returned (.int .i64 0) ∧ w'.heap[gr]? = some (.cells #[x, .int .i64 next] 100 (0, 0)) ∧ w'.heap[gs]? = some (.cells #[.int .i64 s'.addr, .int .i64 s'.ctx, .int .i64 s'.stmt, .bool s'.mark] 53 (0, 0)) ∧ Kept w.heap.size [gr, gs] w w'
theorem ne_of_types {w : World} {a b : Nat} {cs ds : Array Value} {t u : TypeId} {fr fr' : Nat × Nat} (ha : w.heap[a]? = some (.cells cs t fr)) (hb : w.heap[b]? = some (.cells ds u fr')) (h : t ≠ u) : a ≠ b := by
  rintro rfl
  rw [ha] at hb
  injection hb with hb
  injection hb with _ e
  exact h e
set_option maxRecDepth 100000 in
theorem chS_any (gr gs : Nat) (x : Value) (b : List UInt8) (p v next : Int) (s : LRow) (w : World) (hx : InB w x b) (hb : w.heap[gr]? = some (.cells #[x, .int .i64 p] 100 (0, 0))) (hs : w.heap[gs]? = some (.cells #[.int .i64 s.addr, .int .i64 s.ctx, .int .i64 s.stmt, .bool s.mark] 53 (0, 0)))
    (hr : intR b p = (v, next, 0)) (hl : b.length ≤ 1000000) (hv : -100000 ≤ v ∧ v ≤ 100000) (hst : -100000 ≤ s.stmt ∧ s.stmt ≤ 100000) :
    Calls Try.prog 87 #[.pointer (some ⟨gr, 0, none⟩), .int .i64 3, .pointer (some ⟨gs, 0, none⟩)] w (ChPost gr gs x next ⟨s.addr, s.ctx, s.stmt + v, s.mark⟩ w) := by
  obtain ⟨A, c, rfl, _, _⟩ := id hx
  have hne := ne_of_types hb hs (by decide)
  go_enter Try.func87, Try.ntmps87
  go_wp2_with fail
  refine (rdI_any gr _ b p v next w hx hb hr hl).mono ?_
  rintro en w1 ⟨rfl, hb1, hg1⟩
  have hs1 := blk_grown hs hg1 (fun e => hne (by cases e; rfl))
  obtain ⟨s0, s1, s2, s3⟩ := blkR hs1
  have ws : IntKind.i64.wrap (s.stmt + v) = s.stmt + v := by rw [IntKind.wrap_i64]; omega
  have d1 : decide (v < -2199023255552) = false := by simp; omega
  have d2 : decide (2199023255552 < v) = false := by simp; omega
  have d3 : decide (s.stmt + v < -1099511627776) = false := by simp; omega
  have d4 : decide (1099511627776 < s.stmt + v) = false := by simp; omega
  have f := blk_free hs1 2
  have hlt := heap_lt hs1
  go_wp2_with fail
  refine bodyPost_ret (by simp [results, Try.results87, go_sem]; rfl) rfl ?_
  have g2 := gset w1 ⟨gs, 2, none⟩ (.int .i64 (s.stmt + v))
  refine ⟨rfl, blk_far hb1 hne _, blk_set hs1 2 (.int .i64 (s.stmt + v)), (Kept.of_grown hg1 (Nat.le_refl _) (fun k e => by cases e; exact .inr (by simp))).trans (Kept.of_grown g2 hg1.size (fun k e => by cases e; exact .inr (by simp)))⟩
set_option maxRecDepth 100000 in
theorem chC_any (gr gs : Nat) (x : Value) (b : List UInt8) (p v next : Int) (s : LRow) (w : World) (hx : InB w x b) (hb : w.heap[gr]? = some (.cells #[x, .int .i64 p] 100 (0, 0))) (hs : w.heap[gs]? = some (.cells #[.int .i64 s.addr, .int .i64 s.ctx, .int .i64 s.stmt, .bool s.mark] 53 (0, 0)))
    (hr : uintR b p = (v, next, 0)) (hl : b.length ≤ 1000000) (hv : 0 ≤ v ∧ v ≤ 2000000) :
    Calls Try.prog 87 #[.pointer (some ⟨gr, 0, none⟩), .int .i64 2, .pointer (some ⟨gs, 0, none⟩)] w (ChPost gr gs x next ⟨s.addr, v, s.stmt, s.mark⟩ w) := by
  obtain ⟨A, c, rfl, _, _⟩ := id hx
  have hne := ne_of_types hb hs (by decide)
  go_enter Try.func87, Try.ntmps87
  go_wp2_with fail
  refine (rdU_any gr _ b p v next w hx hb hr hl).mono ?_
  rintro en w1 ⟨rfl, hb1, hg1⟩
  have hs1 := blk_grown hs hg1 (fun e => hne (by cases e; rfl))
  obtain ⟨s0, s1, s2, s3⟩ := blkR hs1
  have d1 : decide (1099511627776 < v) = false := by simp; omega
  have f := blk_free hs1 1
  have hlt := heap_lt hs1
  go_wp2_with fail
  refine bodyPost_ret (by simp [results, Try.results87, go_sem]; rfl) rfl ?_
  have g2 := gset w1 ⟨gs, 1, none⟩ (.int .i64 v)
  refine ⟨rfl, blk_far hb1 hne _, blk_set hs1 1 (.int .i64 v), (Kept.of_grown hg1 (Nat.le_refl _) (fun k e => by cases e; exact .inr (by simp))).trans (Kept.of_grown g2 hg1.size (fun k e => by cases e; exact .inr (by simp)))⟩
set_option maxRecDepth 100000 in
theorem chA_any (gr gs : Nat) (x : Value) (b : List UInt8) (p v next : Int) (s : LRow) (w : World) (hx : InB w x b) (hb : w.heap[gr]? = some (.cells #[x, .int .i64 p] 100 (0, 0))) (hs : w.heap[gs]? = some (.cells #[.int .i64 s.addr, .int .i64 s.ctx, .int .i64 s.stmt, .bool s.mark] 53 (0, 0)))
    (hr : uintR b p = (v, next, 0)) (hl : b.length ≤ 1000000) (hv : 0 ≤ v ∧ v ≤ 2000000) (ha : 0 ≤ s.addr ∧ s.addr ≤ 2000000) :
    Calls Try.prog 87 #[.pointer (some ⟨gr, 0, none⟩), .int .i64 1, .pointer (some ⟨gs, 0, none⟩)] w (ChPost gr gs x next ⟨s.addr + v, s.ctx, s.stmt, s.mark⟩ w) := by
  obtain ⟨A, c, rfl, _, _⟩ := id hx
  have hne := ne_of_types hb hs (by decide)
  go_enter Try.func87, Try.ntmps87
  go_wp2_with fail
  refine (rdU_any gr _ b p v next w hx hb hr hl).mono ?_
  rintro en w1 ⟨rfl, hb1, hg1⟩
  have hs1 := blk_grown hs hg1 (fun e => hne (by cases e; rfl))
  obtain ⟨s0, s1, s2, s3⟩ := blkR hs1
  have ws : IntKind.i64.wrap (s.addr + v) = s.addr + v := by rw [IntKind.wrap_i64]; omega
  have wd : IntKind.i64.wrap (1099511627776 - s.addr) = 1099511627776 - s.addr := by rw [IntKind.wrap_i64]; omega
  have d1 : decide (s.addr < 0) = false := by simp; omega
  have d2 : decide (1099511627776 - s.addr < v) = false := by simp; omega
  have f := blk_free hs1 0
  have hlt := heap_lt hs1
  go_wp2_with fail
  refine bodyPost_ret (by simp [results, Try.results87, go_sem]; rfl) rfl ?_
  have g2 := gset w1 ⟨gs, 0, none⟩ (.int .i64 (s.addr + v))
  refine ⟨rfl, blk_far hb1 hne _, blk_set hs1 0 (.int .i64 (s.addr + v)), (Kept.of_grown hg1 (Nat.le_refl _) (fun k e => by cases e; exact .inr (by simp))).trans (Kept.of_grown g2 hg1.size (fun k e => by cases e; exact .inr (by simp)))⟩
end Go.Proofs.Ytokmbdeafjmcjaa
