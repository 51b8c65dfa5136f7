/- Programs of line tables, operation by operation: what they mean, and how they are read. No walk here. -/
import Derived.Test.YtokmbdeafjmcjaaLinH
import Derived.Test.YtokmbdeafjmcjaaPlain2
import Derived.Deep.LoopGhost
namespace Go.Proofs.Ytokmbdeafjmcjaa
open Go.RowKit
set_option linter.unusedVariables false

inductive LOp where
  | up (v : Int)
  | ctx (v : Int)
  | more (v : Int)
  | row
  | mark
  | short (u m : Int)
def opB : LOp → List UInt8
  | .up v => 1 :: uintB v
  | .ctx v => 2 :: uintB v
  | .more v => 3 :: leb (zig v)
  | .row => [4]
  | .mark => [5]
  | .short u m => [oneB u m]
def nextS (s : LRow) : LOp → LRow
  | .up v => ⟨s.addr + v, s.ctx, s.stmt, s.mark⟩
  | .ctx v => ⟨s.addr, v, s.stmt, s.mark⟩
  | .more v => ⟨s.addr, s.ctx, s.stmt + v, s.mark⟩
  | .row => ⟨s.addr, s.ctx, s.stmt, false⟩
  | .mark => ⟨s.addr, s.ctx, s.stmt, true⟩
  | .short u m => ⟨s.addr + u, s.ctx, s.stmt + m, true⟩
def emit (s : LRow) : LOp → List LRow
  | .row => [nextS s .row]
  | .mark => [nextS s .mark]
  | .short u m => [nextS s (.short u m)]
  | _ => []
def okOp : LOp → Prop
  | .up v => 0 ≤ v ∧ v ≤ 2000000
  | .ctx v => 0 ≤ v ∧ v ≤ 2000000
  | .more v => -100000 ≤ v ∧ v ≤ 100000
  | .row => True
  | .mark => True
  | .short u m => 0 ≤ u ∧ u ≤ 29 ∧ -2 ≤ m ∧ m ≤ 5
def Bd (s : LRow) : Prop := (0 ≤ s.addr ∧ s.addr ≤ 2000000) ∧ (-100000 ≤ s.stmt ∧ s.stmt ≤ 100000)
def okOps (s : LRow) : List LOp → Prop
  | [] => True
  | o :: l => Bd s ∧ okOp o ∧ okOps (nextS s o) l
def rowsOf (s : LRow) : List LOp → List LRow
  | [] => []
  | o :: l => emit s o ++ rowsOf (nextS s o) l
def endS (s : LRow) : List LOp → LRow
  | [] => s
  | o :: l => endS (nextS s o) l
theorem uintR_at {b pre rest : List UInt8} {v : Int} (h0 : 0 ≤ v) (h1 : v ≤ 4000000) (hb : b = pre ++ (uintB v ++ rest)) : uintR b (pre.length : Int) = (v, ((pre ++ uintB v).length : Int), 0) := by
  subst hb
  unfold uintB
  rw [if_neg (by omega), uintR_leb (by omega), List.length_append]
  have : ((v.toNat : Nat) : Int) = v := by omega
  rw [this]
  simp
theorem intR_at {b pre rest : List UInt8} {v : Int} (h0 : -1000000 ≤ v) (h1 : v ≤ 1000000) (hb : b = pre ++ (leb (zig v) ++ rest)) : intR b (pre.length : Int) = (v, ((pre ++ leb (zig v)).length : Int), 0) := by
  subst hb
  rw [intR_leb (by omega) (by omega), List.length_append]
  simp
theorem okOps_app : ∀ (a : List LOp) {s : LRow} {c : List LOp}, okOps s (a ++ c) ↔ okOps s a ∧ okOps (endS s a) c
  | [], s, c => by simp [okOps, endS]
  | o :: a, s, c => by
    simp only [List.cons_append, okOps, endS]
    rw [okOps_app a]
    exact ⟨fun ⟨h1, h2, h3, h4⟩ => ⟨⟨h1, h2, h3⟩, h4⟩, fun ⟨⟨h1, h2, h3⟩, h4⟩ => ⟨h1, h2, h3, h4⟩⟩
theorem rowsOf_app : ∀ (a : List LOp) (s : LRow) (c : List LOp), rowsOf s (a ++ c) = rowsOf s a ++ rowsOf (endS s a) c
  | [], s, c => by simp [rowsOf, endS]
  | o :: a, s, c => by
    simp only [List.cons_append, rowsOf, endS]
    rw [rowsOf_app a, List.append_assoc]
theorem endS_app : ∀ (a : List LOp) (s : LRow) (c : List LOp), endS s (a ++ c) = endS (endS s a) c
  | [], _, _ => rfl
  | o :: a, s, c => endS_app a (nextS s o) c
/-- the operations that Encode writes for a row -/
def opsRow (s r : LRow) : List LOp :=
  (if r.ctx = s.ctx then [] else [.ctx r.ctx]) ++ (if shortR (r.addr - s.addr) (r.stmt - s.stmt) r.mark then [.short (r.addr - s.addr) (r.stmt - s.stmt)] else (if 0 < r.addr - s.addr then [.up (r.addr - s.addr)] else []) ++ ((if r.stmt - s.stmt = 0 then [] else [.more (r.stmt - s.stmt)]) ++ [if r.mark then .mark else .row]))
theorem opsRow_B (s r : LRow) : (opsRow s r).flatMap opB = encRow s r := by
  unfold opsRow encRow ctxB upB moreB
  rw [List.flatMap_append]
  congr 1
  · split <;> simp [opB]
  · split
    · simp [opB]
    · rw [List.flatMap_append, List.flatMap_append]
      congr 1
      · split <;> simp [opB]
      · congr 1
        · split <;> simp [opB]
        · cases r.mark <;> simp [opB]
def opsRows (s : LRow) : List LRow → List LOp
  | [] => []
  | r :: l => opsRow s r ++ opsRows r l
theorem opsRows_B : ∀ (l : List LRow) (s : LRow), (opsRows s l).flatMap opB = encRows s l
  | [], _ => rfl
  | r :: l, s => by
    simp only [opsRows, encRows]
    rw [List.flatMap_append, opsRow_B, opsRows_B l r]
theorem opsRow_ok {s r : LRow} (hs : Small s) (hr : Small r) (hle : s.addr ≤ r.addr) : okOps s (opsRow s r) ∧ rowsOf s (opsRow s r) = [r] ∧ endS s (opsRow s r) = r := by
  have h1 := hs.addr
  have h2 := hs.stmt
  have h3 := hr.addr
  have h4 := hr.stmt
  have h5 := hr.ctx
  obtain ⟨sa, sc, ss, sm⟩ := s
  obtain ⟨ra, rc, rs, rm⟩ := r
  simp only at h1 h2 h3 h4 h5 hle
  have e1 : sa + (ra - sa) = ra := by omega
  have e2 : ss + (rs - ss) = rs := by omega
  unfold opsRow
  simp only
  by_cases hc : rc = sc
  · subst hc
    rw [if_pos rfl]
    by_cases hsh : shortR (ra - sa) (rs - ss) rm
    · rw [if_pos hsh]
      obtain ⟨rfl, q1, q2, q3⟩ := hsh
      refine ⟨⟨⟨by simp only; omega, by simp only; omega⟩, ⟨by omega, q1, q2, q3⟩, trivial⟩, ?_, ?_⟩
      · simp only [List.nil_append, rowsOf, emit, nextS, e1, e2, List.append_nil]
      · simp only [List.nil_append, endS, nextS, e1, e2]
    · rw [if_neg hsh]
      by_cases hu : 0 < ra - sa <;> by_cases hm : rs - ss = 0 <;> cases rm <;>
        simp only [hu, hm, if_true, if_false, List.nil_append, List.cons_append, okOps, okOp, Bd, nextS, rowsOf, emit, endS, e1, e2, List.append_nil, Bool.false_eq_true, LRow.mk.injEq, List.cons.injEq, and_true, true_and] <;> omega
  · rw [if_neg hc]
    by_cases hsh : shortR (ra - sa) (rs - ss) rm
    · rw [if_pos hsh]
      obtain ⟨rfl, q1, q2, q3⟩ := hsh
      refine ⟨⟨⟨by simp only; omega, by simp only; omega⟩, ⟨by omega, by omega⟩, ⟨⟨by simp only [nextS]; omega, by simp only [nextS]; omega⟩, ⟨by omega, q1, q2, q3⟩, trivial⟩⟩, ?_, ?_⟩
      · simp only [List.cons_append, List.nil_append, rowsOf, emit, nextS, e1, e2, List.append_nil]
      · simp only [List.cons_append, List.nil_append, endS, nextS, e1, e2]
    · rw [if_neg hsh]
      by_cases hu : 0 < ra - sa <;> by_cases hm : rs - ss = 0 <;> cases rm <;>
        simp only [hu, hm, if_true, if_false, List.nil_append, List.cons_append, okOps, okOp, Bd, nextS, rowsOf, emit, endS, e1, e2, List.append_nil, Bool.false_eq_true, LRow.mk.injEq, List.cons.injEq, and_true, true_and] <;> omega
theorem opsRows_ok {hi : Int} (hh : hi ≤ 1048576) : ∀ (l : List LRow) {s : LRow} {nx : Int}, RowSt hi s nx l → okOps s (opsRows s l) ∧ rowsOf s (opsRows s l) = l
  | [], _, _, _ => ⟨trivial, rfl⟩
  | r :: l, s, nx, h => by
    obtain ⟨h1, h2, h3⟩ := h.next hh
    obtain ⟨a1, a2, a3⟩ := opsRow_ok h.1 h1 h2
    obtain ⟨b1, b2⟩ := opsRows_ok hh l h3
    simp only [opsRows]
    rw [okOps_app, rowsOf_app, a2, a3, b2]
    exact ⟨⟨a1, b1⟩, rfl⟩
end Go.Proofs.Ytokmbdeafjmcjaa
