/- A range over slices.Backward: the iterator's contract over rows of structs. -/
import Derived.RangeFuncNested
import Derived.RangeFuncBound
import Derived.RangeFuncCalls
import Derived.RangeFuncLeaves
import Derived.Shelf.Abstract
import Derived.Shelf.RegionOpen
import Derived.WalkKit
import Derived.OwnWalkIn
import Derived.TacticsInMore
import Derived.LoopNIn
import Derived.LoopIn
import Derived.Test.YtokmbdeafjmcjaaLinA
namespace Go.Proofs.Ytokmbdeafjmcjaa
open Go.RowKit Go.Shelf
set_option linter.unusedVariables false
attribute [local go_sem] Oper.semAt_some

theorem wpListIn_load_run {F : Fence} {n : Nat} {P : Program} {ops : Array Oper} {rest : List Oper} {op : Oper} {a : Act} {w : World} {Q : Exit → Act → World → Prop} (hgd : op.guard = none) (ty : TypeId) (x : Operand) (ho : op.op = .load ty x)
    (v u : Value) (hx : a.eval x = v) (hr : (Instr.loadAt ty v).run P w = .ok u w) (h : wpListIn F n P ops Q rest (a.put op.dst u) w) : wpListIn F n P ops Q (op :: rest) a w :=
  wpListIn_plain hgd fun K hK => by
    unfold Oper.wpIn
    refine ⟨by simp [Oper.about, ho], ?_⟩
    rw [Oper.semAt_plain F _ _ (by rw [ho]; intro c hc; cases hc)]
    unfold execOp
    simp only [ho, hx, Sem.run_bind, hr, Result.andThen_ok, Sem.run_pure]
    exact hK _ _ h
theorem wpListIn_store_run {F : Fence} {n : Nat} {P : Program} {ops : Array Oper} {rest : List Oper} {op : Oper} {a : Act} {w : World} {Q : Exit → Act → World → Prop} (hgd : op.guard = none) (ty : TypeId) (x y : Operand) (ho : op.op = .store ty x y)
    (v u : Value) (w' : World) (hx : a.eval x = v) (hy : a.eval y = u) (hr : (Instr.storeAt ty v u).run P w = .ok () w') (h : wpListIn F n P ops Q rest (a.put op.dst undef) w') : wpListIn F n P ops Q (op :: rest) a w :=
  wpListIn_plain hgd fun K hK => by
    unfold Oper.wpIn
    refine ⟨by simp [Oper.about, ho], ?_⟩
    rw [Oper.semAt_plain F _ _ (by rw [ho]; intro c hc; cases hc)]
    unfold execOp
    simp only [ho, hx, hy, Sem.run_bind, hr, Result.andThen_ok, Sem.run_pure]
    exact hK _ _ h
/-- a block of cells is kept by whoever turns what is no cells -/
theorem own_blk {β : Type} (g : Nat) (f : β → Array Value) (t : TypeId) (fr : Nat × Nat) : Own (fun (s : β) W => W.heap[g]? = some (.cells (f s) t fr)) := fun s W W' row hs hg hr =>
  blk_grown hs hg (fun e => by
    obtain ⟨o, ho, hc⟩ := hr g e.symm
    rw [hs] at ho
    cases ho
    cases hc)
theorem rev_take {α : Type} (l : List α) (j : Nat) (hj : j < l.length) : l.reverse.take (l.length - j) = l.reverse.take (l.length - (j + 1)) ++ [l[j]] := by
  have e : l.length - j = (l.length - (j + 1)) + 1 := by omega
  rw [e, List.take_succ_eq_append_getElem (by simp; omega), List.getElem_reverse]
  have e2 : l.length - 1 - (l.length - (j + 1)) = j := by omega
  simp only [e2]
set_option maxRecDepth 100000 in
set_option maxHeartbeats 4000000 in
theorem bwdRow_in (F : Fence) (n : Nat) (h88 : F.fn 88) (hro : F.round = none) (hn : 1 ≤ n) (l Bs : Nat) (w0 : World) (y : Value) (rows : List LRow) (hin : InR lrowCells w0 y rows) (hlen : rows.length ≤ 9223372036854775807) (J Jx : List (Nat × LRow) → World → Prop)
    (hY : ∀ pre x W, J pre W → pre.length < rows.length → YieldAt F (n - 1) Try.prog l #[.int .i64 (x.1 : Int), .agg #[.int .i64 x.2.addr, .int .i64 x.2.ctx, .int .i64 x.2.stmt, .bool x.2.mark]] W fun e W' =>
      (e = .returned (.bool true) ∧ J (pre ++ [x]) W' ∧ Below w0.heap.size W W') ∨ (e = .returned (.bool false) ∧ Jx (pre ++ [x]) W'))
    (W : World) (hW : Below w0.heap.size w0 W) (hBl : Bs < w0.heap.size) (hBs : w0.cell? ⟨Bs, 0, none⟩ = some y) (h0 : J [] W) :
    CallsIn F n Try.prog 88 #[.func (.yield l) #[] #[], .pointer (some ⟨Bs, 0, none⟩)] W fun e W' => (∃ v, e = .returned v) ∧
      ((∃ ys, ys.map Prod.snd = rows.reverse ∧ J ys W') ∨ (∃ pre, pre.map Prod.snd <+: rows.reverse ∧ Jx pre W')) := by
  obtain ⟨A, c, rfl, _, _⟩ := id hin
  have HIN := Lib.hid hin
  clear hin
  refine callsIn_of_wp Try.func88 rfl h88 ?_ hro
  simp only [Try.ntmps88, List.size_toArray, List.length_cons, List.length_nil, Nat.reduceAdd, Nat.reduceSub, Array.replicate_succ, Array.replicate_zero, List.push_toArray, List.append_toArray, List.nil_append, List.cons_append]
  have hb0 := Ext.cell hW hBs
  have hwl : IntKind.i64.wrap ((rows.length : Int) - 1) = (rows.length : Int) - 1 := by rw [IntKind.wrap_i64]; omega
  gi_wp2
  gi_loopw [3] (fun i wr => ∃ (m : Nat) (pre : List (Nat × LRow)), m ≤ rows.length ∧ i = .int .i64 ((m : Int) - 1) ∧ Hid (pre.map Prod.snd = rows.reverse.take (rows.length - m)) ∧ pre.length = rows.length - m ∧ J pre wr ∧ Below w0.heap.size w0 wr) (fun i _ => (intOf i + 1).toNat)
  case atStart => exact ⟨rows.length, [], by omega, rfl, Lib.hid (by simp), by simp, h0, hW⟩
  case round =>
    obtain ⟨m, pre, hm, rfl, HP, hpl, hJs, hnx⟩ := hrel
    have hb1 := Ext.cell hnx hBs
    cases m with
    | zero =>
      have d0 : decide ((0 : Int) ≤ ((0 : Nat) : Int) - 1) = false := by decide
      gi_wp2
      go_end0
      exact ⟨⟨_, rfl⟩, .inl ⟨pre, by rw [HP.out, List.take_of_length_le (by simp)], hJs⟩⟩
    | succ j =>
      have hjl : j < rows.length := by omega
      have ej : (((j + 1 : Nat) : Int) - 1) = (j : Int) := by omega
      have HPN : Hid (pre.map Prod.snd ++ [rows[j]] = rows.reverse.take (rows.length - j)) := Lib.hid (by rw [rev_take rows j hjl, HP.out])
      rw [ej]
      obtain ⟨b, o, hAe, hra⟩ := (HIN.out.ext hnx).at_ (k := 4) (fun _ _ => rfl) (by omega) hjl
      subst hAe
      have hji : (j : Int) < (rows.length : Int) := by omega
      have d0 : decide ((0 : Int) ≤ (j : Int)) = true := by simp
      generalize rows[j] = r at *
      have hld := lrow_load hra
      obtain ⟨fn, tmps, assign, body, hy, hR⟩ := hY pre (j, r) wr hJs (by omega)
      dsimp only at hy
      have hwj : IntKind.i64.wrap ((j : Int) - 1) = (j : Int) - 1 := by rw [IntKind.wrap_i64]; omega
      gi_wp2_with first | refine wpListIn_load_run rfl 53 (.tmp 15) rfl _ _ rfl hld ?_
      refine hR.mono ?_
      rintro e W3 (⟨rfl, hJ3, hk3⟩ | ⟨rfl, hJx3⟩)
      · gi_wp2
        go_roundw
        case rel => exact ⟨j, pre ++ [(j, r)], by omega, by first | (with_reducible rfl) | go_num, Lib.hid (by rw [List.map_append, ← HPN.out]; rfl), by rw [List.length_append, List.length_singleton]; omega, hJ3, hnx.trans hk3⟩
        case measure => simp [intOf] <;> omega
      · gi_wp2
        refine bodyPost_ret (results_none rfl _ _ _) rfl ?_
        exact ⟨⟨_, rfl⟩, .inr ⟨_, by rw [List.map_append]; show pre.map Prod.snd ++ [r] <+: _; rw [HPN.out]; exact List.take_prefix _ _, hJx3⟩⟩
theorem bwdRow_stops (F : Fence) (n : Nat) (h88 : F.fn 88) (hro : F.round = none) (hn : 1 ≤ n) (Bs : Nat) (w0 : World) (y : Value) (rows : List LRow) (hin : InR lrowCells w0 y rows) (hlen : rows.length ≤ 9223372036854775807) (hBl : Bs < w0.heap.size) (hBs : w0.cell? ⟨Bs, 0, none⟩ = some y) :
    SeqStopsK F n Try.prog 88 #[.pointer (some ⟨Bs, 0, none⟩)] (fun x : Nat × LRow => #[.int .i64 (x.1 : Int), .agg #[.int .i64 x.2.addr, .int .i64 x.2.ctx, .int .i64 x.2.stmt, .bool x.2.mark]]) (Below w0.heap.size) (fun ys => ys.map Prod.snd = rows.reverse) (fun pre => pre.map Prod.snd <+: rows.reverse) rows.length w0 := fun l J Jx W hW _ _ hY h0 =>
  bwdRow_in F n h88 hro hn l Bs w0 y rows hin hlen J Jx hY W hW hBl hBs h0
theorem bwdRow_any (A : Option Addr) (k c : Nat) (w : World) : Calls Try.prog 65 #[.slice A k c] w fun e w' => e = .returned (.func (.func 88) #[] #[.pointer (some ⟨w.heap.size, 0, none⟩)]) ∧ w' = w.alloc (.cells #[.slice A k c] 44) := by
  go_enter Try.func65, Try.ntmps65
  go_wp2_with fail
  go_ret
  exact ⟨rfl, rfl⟩
end Go.Proofs.Ytokmbdeafjmcjaa
