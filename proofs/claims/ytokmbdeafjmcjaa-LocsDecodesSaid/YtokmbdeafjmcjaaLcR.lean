/- Small functions of the specification of location lists: places, keys, their order. -/
import Derived.Test.YtokmbdeafjmcjaaLcE
import Derived.Test.YtokmbdeafjmcjaaLinW
namespace Go.Proofs.Ytokmbdeafjmcjaa
open Go.RowKit
set_option linter.unusedVariables false
set_option linter.unusedSimpArgs false

set_option maxHeartbeats 4000000 in
set_option maxRecDepth 100000 in
theorem refPlace_any (p : Plc) (w : World) : Calls Try.prog 98 #[.agg #[.int .i64 p.kind, .int .i64 p.n, .int .i64 p.add]] w (Tells (okPlc p) w) := by
  go_enter Try.func98, Try.ntmps98
  go_upto_region 1 with fail
  obtain ⟨W, hW, hE, hB⟩ : ∃ W, W = w.alloc (.cells #[.int .i64 p.kind, .int .i64 p.n, .int .i64 p.add] 75) ∧ Ext w W ∧ W.heap[w.heap.size]? = some (.cells #[.int .i64 p.kind, .int .i64 p.n, .int .i64 p.add] 75 (0, 0)) := ⟨_, rfl, (Ext.refl w).alloc _, heap_alloc_new w _⟩
  rw [← hW]
  clear hW
  obtain ⟨q0, q1, q2⟩ := blkT hB
  obtain ⟨K, hK⟩ : ∃ K, K = p.kind := ⟨_, rfl⟩
  obtain ⟨N, hN⟩ : ∃ K, K = p.n := ⟨_, rfl⟩
  have HP : Hid (okPlc p ↔ (K = 1 ∧ N = 0) ∨ ((K = 2 ∨ K = 4) ∧ 0 ≤ N ∧ N ≤ 15) ∨ (K = 3 ∧ 0 ≤ N ∧ N ≤ 4095)) := Lib.hid (by rw [hK, hN]; rfl)
  rw [← hK] at q0
  rw [← hN] at q1
  clear hK hN
  by_cases h1 : K = 1
  case pos =>
    have e1 : (K == 1) = true := by simpa using h1
    by_cases h0 : N = 0
    · have e0 : (N == 0) = true := by simpa using h0
      have HY : Hid (okPlc p) := Lib.hid (HP.out.2 (.inl ⟨h1, h0⟩))
      clear h1 h0
      go_wp2_with fail
      refine bodyPost_ret (by simp [results, Try.results98, go_sem]; rfl) rfl ?_
      exact Tells.yes HY.out hE
    · have e0 : (N == 0) = false := by simpa using h0
      have HY : Hid (¬ okPlc p) := Lib.hid (fun h => by have := HP.out.1 h; omega)
      clear h1 h0
      go_wp2_with fail
      refine bodyPost_ret (by simp [results, Try.results98, go_sem]; rfl) rfl ?_
      exact Tells.no HY.out hE
  have e1 : (K == 1) = false := by simpa using h1
  by_cases h2 : K = 2
  case pos =>
    have e2 : (K == 2) = true := by simpa using h2
    by_cases n1 : 0 ≤ N
    case neg =>
      have d1 : decide (0 ≤ N) = false := by simpa using n1
      have HY : Hid (¬ okPlc p) := Lib.hid (fun h => by have := HP.out.1 h; omega)
      clear n1 h1 h2
      go_wp2_with fail
      refine bodyPost_ret (by simp [results, Try.results98, go_sem]; rfl) rfl ?_
      exact Tells.no HY.out hE
    have d1 : decide (0 ≤ N) = true := by simpa using n1
    by_cases n2 : N ≤ 15
    case neg =>
      have d2 : decide (N ≤ 15) = false := by simpa using n2
      have HY : Hid (¬ okPlc p) := Lib.hid (fun h => by have := HP.out.1 h; omega)
      clear n1 n2 h1 h2
      go_wp2_with fail
      refine bodyPost_ret (by simp [results, Try.results98, go_sem]; rfl) rfl ?_
      exact Tells.no HY.out hE
    have d2 : decide (N ≤ 15) = true := by simpa using n2
    have HY : Hid (okPlc p) := Lib.hid (HP.out.2 (by omega))
    clear n1 n2 h1 h2
    go_wp2_with fail
    refine bodyPost_ret (by simp [results, Try.results98, go_sem]; rfl) rfl ?_
    exact Tells.yes HY.out hE
  have e2 : (K == 2) = false := by simpa using h2
  by_cases h4 : K = 4
  case pos =>
    have e4 : (K == 4) = true := by simpa using h4
    by_cases n1 : 0 ≤ N
    case neg =>
      have d1 : decide (0 ≤ N) = false := by simpa using n1
      have HY : Hid (¬ okPlc p) := Lib.hid (fun h => by have := HP.out.1 h; omega)
      clear n1 h1 h2 h4
      go_wp2_with fail
      refine bodyPost_ret (by simp [results, Try.results98, go_sem]; rfl) rfl ?_
      exact Tells.no HY.out hE
    have d1 : decide (0 ≤ N) = true := by simpa using n1
    by_cases n2 : N ≤ 15
    case neg =>
      have d2 : decide (N ≤ 15) = false := by simpa using n2
      have HY : Hid (¬ okPlc p) := Lib.hid (fun h => by have := HP.out.1 h; omega)
      clear n1 n2 h1 h2 h4
      go_wp2_with fail
      refine bodyPost_ret (by simp [results, Try.results98, go_sem]; rfl) rfl ?_
      exact Tells.no HY.out hE
    have d2 : decide (N ≤ 15) = true := by simpa using n2
    have HY : Hid (okPlc p) := Lib.hid (HP.out.2 (by omega))
    clear n1 n2 h1 h2 h4
    go_wp2_with fail
    refine bodyPost_ret (by simp [results, Try.results98, go_sem]; rfl) rfl ?_
    exact Tells.yes HY.out hE
  have e4 : (K == 4) = false := by simpa using h4
  by_cases h3 : K = 3
  case pos =>
    have e3 : (K == 3) = true := by simpa using h3
    by_cases n1 : 0 ≤ N
    case neg =>
      have d1 : decide (0 ≤ N) = false := by simpa using n1
      have HY : Hid (¬ okPlc p) := Lib.hid (fun h => by have := HP.out.1 h; omega)
      clear n1 h1 h2 h4 h3
      go_wp2_with fail
      refine bodyPost_ret (by simp [results, Try.results98, go_sem]; rfl) rfl ?_
      exact Tells.no HY.out hE
    have d1 : decide (0 ≤ N) = true := by simpa using n1
    by_cases n2 : N ≤ 4095
    case neg =>
      have d2 : decide (N ≤ 4095) = false := by simpa using n2
      have HY : Hid (¬ okPlc p) := Lib.hid (fun h => by have := HP.out.1 h; omega)
      clear n1 n2 h1 h2 h4 h3
      go_wp2_with fail
      refine bodyPost_ret (by simp [results, Try.results98, go_sem]; rfl) rfl ?_
      exact Tells.no HY.out hE
    have d2 : decide (N ≤ 4095) = true := by simpa using n2
    have HY : Hid (okPlc p) := Lib.hid (HP.out.2 (by omega))
    clear n1 n2 h1 h2 h4 h3
    go_wp2_with fail
    refine bodyPost_ret (by simp [results, Try.results98, go_sem]; rfl) rfl ?_
    exact Tells.yes HY.out hE
  have e3 : (K == 3) = false := by simpa using h3
  have HY : Hid (¬ okPlc p) := Lib.hid (fun h => by have := HP.out.1 h; omega)
  clear h1 h2 h3 h4
  go_wp2_with fail
  refine bodyPost_ret (by simp [results, Try.results98, go_sem]; rfl) rfl ?_
  exact Tells.no HY.out hE
def keyV (a : Rng) : Value := .agg #[.int .i64 a.lo, .int .i64 a.ctx, .int .i64 a.var, .int .i64 a.piece]
theorem blkQ {w : World} {g : Nat} {a b c d : Value} {t : TypeId} (H : w.heap[g]? = some (.cells #[a, b, c, d] t (0, 0))) :
    w.cell? ⟨g, 0, none⟩ = some a ∧ w.cell? ⟨g, 1, none⟩ = some b ∧ w.cell? ⟨g, 2, none⟩ = some c ∧ w.cell? ⟨g, 3, none⟩ = some d := ⟨blk_at H 0 _ rfl, blk_at H 1 _ rfl, blk_at H 2 _ rfl, blk_at H 3 _ rfl⟩
set_option maxHeartbeats 4000000 in
set_option maxRecDepth 100000 in
theorem key_any (a : Rng) (y : Value) (w : World) (hy : ∃ A n c, y = .slice A n c) : Calls Try.prog 97 #[.agg #[.int .i64 a.ctx, .int .i64 a.var, .int .i64 a.piece, .int .i64 a.lo, .int .i64 a.hi, y]] w fun en w' => en = .returned (keyV a) ∧ Ext w w' := by
  obtain ⟨A1, n1, c1, rfl⟩ := hy
  go_enter Try.func97, Try.ntmps97
  go_upto_region 1 with fail
  have e1 := heap_alloc_new w (.cells #[.int .i64 a.ctx, .int .i64 a.var, .int .i64 a.piece, .int .i64 a.lo, .int .i64 a.hi, .slice A1 n1 c1] 69)
  have x1 := (Ext.refl w).alloc (.cells #[.int .i64 a.ctx, .int .i64 a.var, .int .i64 a.piece, .int .i64 a.lo, .int .i64 a.hi, .slice A1 n1 c1] 69)
  have z1 : (w.alloc (.cells #[.int .i64 a.ctx, .int .i64 a.var, .int .i64 a.piece, .int .i64 a.lo, .int .i64 a.hi, .slice A1 n1 c1] 69)).heap.size = w.heap.size + 1 := by simp
  have e2 := heap_alloc_new (w.alloc (.cells #[.int .i64 a.ctx, .int .i64 a.var, .int .i64 a.piece, .int .i64 a.lo, .int .i64 a.hi, .slice A1 n1 c1] 69)) (.cells #[.int .i64 0, .int .i64 0, .int .i64 0, .int .i64 0] 158)
  have x2 := (Ext.refl (w.alloc (.cells #[.int .i64 a.ctx, .int .i64 a.var, .int .i64 a.piece, .int .i64 a.lo, .int .i64 a.hi, .slice A1 n1 c1] 69))).alloc (.cells #[.int .i64 0, .int .i64 0, .int .i64 0, .int .i64 0] 158)
  have e1' := x2.heap e1
  have hE := x1.trans x2
  rw [z1] at e2
  generalize (w.alloc (.cells #[.int .i64 a.ctx, .int .i64 a.var, .int .i64 a.piece, .int .i64 a.lo, .int .i64 a.hi, .slice A1 n1 c1] 69)).alloc (.cells #[.int .i64 0, .int .i64 0, .int .i64 0, .int .i64 0] 158) = W at *
  clear e1 x1 z1 x2
  obtain ⟨a0, a1, a2, a3, a4, a5⟩ := blk6 e1'
  have hst := run_storeAt_blk (P := Try.prog) W (w.heap.size + 1) 158 158 _ #[.int .i64 a.lo, .int .i64 a.ctx, .int .i64 a.var, .int .i64 a.piece] e2 (by kernel_rfl) rfl (by simp [Value.oneCell'])
  have hG := setRow_heap W (w.heap.size + 1) _ #[.int .i64 a.lo, .int .i64 a.ctx, .int .i64 a.var, .int .i64 a.piece] _ _ e2
  have hXn := hE.grown (gsetRow W (w.heap.size + 1) #[.int .i64 a.lo, .int .i64 a.ctx, .int .i64 a.var, .int .i64 a.piece]) (fun k e => by cases e; omega)
  go_wp2_with first | refine wpList_store_run rfl 158 (.tmp 2) (.tmp 11) rfl _ _ _ rfl rfl hst ?_
  obtain ⟨k0, k1, k2, k3⟩ := blkQ hG
  refine bodyPost_ret (v := .agg #[.int .i64 a.lo, .int .i64 a.ctx, .int .i64 a.var, .int .i64 a.piece]) (by simp [results, Try.results97, go_sem, k0, k1, k2, k3]) rfl ?_
  exact ⟨rfl, hXn⟩
def kN (r : Rng) : Nat → Int
  | 0 => r.lo
  | 1 => r.ctx
  | 2 => r.var
  | _ => r.piece
theorem ltK_at {a b : Rng} {m : Nat} (hm : m < 4) (h : ∀ k, k < m → kN a k = kN b k) (hne : kN a m ≠ kN b m) : ltK a b ↔ kN a m < kN b m := by
  unfold ltK
  match m, hm with
  | 0, _ => simp only [kN] at hne ⊢; omega
  | 1, _ =>
    have h0 := h 0 (by omega)
    simp only [kN] at hne h0 ⊢; omega
  | 2, _ =>
    have h0 := h 0 (by omega)
    have h1 := h 1 (by omega)
    simp only [kN] at hne h0 h1 ⊢; omega
  | 3, _ =>
    have h0 := h 0 (by omega)
    have h1 := h 1 (by omega)
    have h2 := h 2 (by omega)
    simp only [kN] at hne h0 h1 h2 ⊢; omega
theorem ltK_not {a b : Rng} (h : ∀ k, k < 4 → kN a k = kN b k) : ¬ ltK a b := by
  have h0 := h 0 (by omega)
  have h1 := h 1 (by omega)
  have h2 := h 2 (by omega)
  have h3 := h 3 (by omega)
  unfold ltK
  simp only [kN] at h0 h1 h2 h3
  omega
theorem kN_at {w : World} {g : Nat} {a : Rng} {t : TypeId} (H : w.heap[g]? = some (.cells #[.int .i64 a.lo, .int .i64 a.ctx, .int .i64 a.var, .int .i64 a.piece] t (0, 0))) {m : Nat} (hm : m < 4) : w.cell? ⟨g, m, none⟩ = some (.int .i64 (kN a m)) := by
  match m, hm with
  | 0, _ => exact blk_at H 0 _ rfl
  | 1, _ => exact blk_at H 1 _ rfl
  | 2, _ => exact blk_at H 2 _ rfl
  | 3, _ => exact blk_at H 3 _ rfl
set_option maxHeartbeats 4000000 in
set_option maxRecDepth 100000 in
theorem less_any (a b : Rng) (w : World) : Calls Try.prog 96 #[keyV a, keyV b] w (Tells (ltK a b) w) := by
  unfold keyV
  go_enter Try.func96, Try.ntmps96
  go_upto_region 1 with fail
  have e1 := heap_alloc_new w (.cells #[.int .i64 a.lo, .int .i64 a.ctx, .int .i64 a.var, .int .i64 a.piece] 158)
  have x1 := (Ext.refl w).alloc (.cells #[.int .i64 a.lo, .int .i64 a.ctx, .int .i64 a.var, .int .i64 a.piece] 158)
  have z1 : (w.alloc (.cells #[.int .i64 a.lo, .int .i64 a.ctx, .int .i64 a.var, .int .i64 a.piece] 158)).heap.size = w.heap.size + 1 := by simp
  have e2 := heap_alloc_new (w.alloc (.cells #[.int .i64 a.lo, .int .i64 a.ctx, .int .i64 a.var, .int .i64 a.piece] 158)) (.cells #[.int .i64 b.lo, .int .i64 b.ctx, .int .i64 b.var, .int .i64 b.piece] 158)
  have x2 := (Ext.refl (w.alloc (.cells #[.int .i64 a.lo, .int .i64 a.ctx, .int .i64 a.var, .int .i64 a.piece] 158))).alloc (.cells #[.int .i64 b.lo, .int .i64 b.ctx, .int .i64 b.var, .int .i64 b.piece] 158)
  have e1' := x2.heap e1
  have hE := x1.trans x2
  rw [z1] at e2
  generalize (w.alloc (.cells #[.int .i64 a.lo, .int .i64 a.ctx, .int .i64 a.var, .int .i64 a.piece] 158)).alloc (.cells #[.int .i64 b.lo, .int .i64 b.ctx, .int .i64 b.var, .int .i64 b.piece] 158) = W at *
  clear e1 x1 z1 x2
  obtain ⟨g2, hg2⟩ : ∃ g, g = w.heap.size := ⟨_, rfl⟩
  obtain ⟨g3, hg3⟩ : ∃ g, g = w.heap.size + 1 := ⟨_, rfl⟩
  rw [← hg3] at e2 ⊢
  rw [← hg2] at e1' ⊢
  clear hg2 hg3
  go_wp2_with fail
  go_loopw [6] (fun i wr => ∃ m : Nat, m ≤ 4 ∧ i = .int .i64 (m : Int) ∧ Hid (∀ k, k < m → kN a k = kN b k) ∧ Ext W wr) (fun i _ => 4 - (intOf i).toNat)
  case atStart => exact ⟨0, by omega, rfl, Lib.hid (fun k h => absurd h (by omega)), Ext.refl _⟩
  case round =>
    obtain ⟨m, hm, rfl, HQ, hX⟩ := hrel
    obtain ⟨wz, rfl⟩ : ∃ W : World, W = wr := ⟨_, rfl⟩
    by_cases hlt : m < 4
    · have hij : (m : Int) < 4 := by omega
      have c1 := kN_at (hX.heap e1') hlt
      have c2 := kN_at (hX.heap e2) hlt
      have HL := Lib.hid (fun h => ltK_at (a := a) (b := b) hlt HQ.out h)
      have HQ2 : Hid (kN a m = kN b m → ∀ k, k < m + 1 → kN a k = kN b k) := Lib.hid (fun h k hk => by
        rcases Nat.lt_or_ge k m with h1 | h1
        · exact HQ.out k h1
        · have : k = m := by omega
          subst this
          exact h)
      generalize kN a m = x at *
      generalize kN b m = y at *
      go_upto_region 4 with fail
      by_cases hxy : x = y
      · have e0 : (x != y) = false := by simpa using hxy
        have HQ3 := Lib.hid (HQ2.out hxy)
        clear hxy HL HQ2 HQ
        go_quiet (fail)
        have hXq := hX.trans ((Ext.refl wz).drewN nq)
        generalize wz.drewN nq = wq at *
        clear hX c1 c2
        go_wp2_with fail
        go_roundw
        case rel => exact ⟨m + 1, by omega, by first | (with_reducible rfl) | go_num, HQ3, hXq⟩
        case measure => simp [intOf]; omega
      · have e0 : (x != y) = true := by simpa using hxy
        have HL2 := Lib.hid (HL.out hxy)
        clear hxy HL HQ2 HQ
        go_quiet (fail)
        have hXq := hX.trans ((Ext.refl wz).drewN nq)
        have c1' := ((Ext.refl wz).drewN nq).cell c1
        have c2' := ((Ext.refl wz).drewN nq).cell c2
        generalize wz.drewN nq = wq at *
        clear hX c1 c2
        go_upto_region 5 with fail
        go_quiet (fail)
        have hXr := hXq.trans ((Ext.refl wq).drewN nq)
        generalize wq.drewN nq = wy at *
        go_wp2_with fail
        refine bodyPost_ret (by simp [results, Try.results96, go_sem]; rfl) rfl ?_
        exact ⟨_, rfl, by rw [HL2.out, decide_eq_true_eq], hE.trans hXr⟩
    · have hij : ¬ (m : Int) < 4 := by omega
      have HN : Hid (¬ ltK a b) := Lib.hid (ltK_not (fun k hk => HQ.out k (by omega)))
      clear HQ
      go_wp2_with fail
      refine bodyPost_ret (by simp [results, Try.results96, go_sem]; rfl) rfl ?_
      exact Tells.no HN.out (hE.trans hX)
end Go.Proofs.Ytokmbdeafjmcjaa
/- What may be encoded, as the specification says it: the walk of ref.ranges. -/
namespace Go.Proofs.Ytokmbdeafjmcjaa
open Go.RowKit
set_option linter.unusedVariables false
set_option linter.unusedSimpArgs false

theorem ext_of_none {a b : World} (h : a.grownBy b none) : Ext a b := ⟨h.os, h.tape, h.output, h.size, fun i hi => h.block i hi (by simp)⟩
theorem rep_app {l r : List Value} (m n : Nat) (h1 : l = List.replicate m (Value.int .i64 0)) (h2 : r = List.replicate n (Value.int .i64 0)) : l.append r = List.replicate (m + n) (Value.int .i64 0) := by
  subst h1 h2
  show List.replicate m _ ++ List.replicate n _ = _
  rw [List.replicate_append_replicate]
set_option maxRecDepth 100000 in
set_option maxHeartbeats 4000000 in
theorem ae_zero0 : Try.t160.zero = some (.agg (Array.replicate 24576 (.int .i64 0))) := by
  rw [← List.toArray_replicate]
  refine congrArg (fun l => some (Value.agg (List.toArray l))) (?_ : _ = List.replicate 24576 (Value.int .i64 0))
  refine rep_app 12288 12288 ?_ ?_
  all_goals refine rep_app 6144 6144 ?_ ?_
  all_goals refine rep_app 3072 3072 ?_ ?_
  all_goals refine rep_app 1536 1536 ?_ ?_
  all_goals refine rep_app 768 768 ?_ ?_
  all_goals refine rep_app 384 384 ?_ ?_
  all_goals refine rep_app 192 192 ?_ ?_
  all_goals refine rep_app 96 96 ?_ ?_
  all_goals refine rep_app 48 48 ?_ ?_
  all_goals rfl
theorem ae_info : Try.prog.info? 160 = some Try.t160 := by kernel_rfl
theorem ae_zero : (Try.prog.info? 160).map (fun i => (i.zero, i.size)) = some (some (.agg (Array.replicate 24576 (.int .i64 0))), 24576) := by
  rw [ae_info, Option.map_some, ae_zero0]
  rfl
theorem run_alloc_ae (w : World) : (Instr.alloc 160 true (.tuple #[])).run Try.prog w = .ok (.pointer (some ⟨w.heap.size, 0, none⟩)) (w.alloc (.cells (Array.replicate 24576 (.int .i64 0)) 160)) := by
  rcases hi : Try.prog.info? 160 with _ | i
  · have := ae_zero; rw [hi] at this; cases this
  · have h := ae_zero
    rw [hi] at h
    simp only [Option.map_some, Option.some.injEq, Prod.mk.injEq] at h
    obtain ⟨h1, h2⟩ := h
    generalize Array.replicate 24576 (Value.int .i64 0) = C at *
    unfold Instr.alloc zeroValue newVar
    simp [typeInfo, hi, h1, newRow]
    rfl
/-- where the latest ranges of the pieces end -/
def EndsA (C : Array Value) (l : List Rng) : Prop := C.size = 24576 ∧ ∀ c v q : Nat, c ≤ 255 → v < 24 → q < 4 → C[c * 96 + v * 4 + q]? = some (.int .i64 ((endOf l ((c : Int), (v : Int), (q : Int))).getD 0))
theorem EndsA.start : EndsA (Array.replicate 24576 (.int .i64 0)) [] := ⟨by simp, fun c v q hc hv hq => by
  rw [Array.getElem?_replicate, if_pos (by omega), endOf_nil]
  rfl⟩
theorem EndsA.push {C : Array Value} {l : List Rng} {r : Rng} {c v q : Nat} (h : EndsA C l) (hc : c ≤ 255) (hv : v < 24) (hq : q < 4) (ec : r.ctx = (c : Int)) (ev : r.var = (v : Int)) (eq : r.piece = (q : Int)) : EndsA (C.setIfInBounds (c * 96 + v * 4 + q) (.int .i64 r.hi)) (l ++ [r]) := by
  refine ⟨by rw [Array.size_setIfInBounds]; exact h.1, fun c2 v2 q2 h1 h2 h3 => ?_⟩
  rw [Array.getElem?_setIfInBounds, endOf_snoc]
  have hs := h.1
  by_cases e : c * 96 + v * 4 + q = c2 * 96 + v2 * 4 + q2
  · rw [if_pos e, if_pos (by omega)]
    obtain ⟨rfl, rfl, rfl⟩ : c2 = c ∧ v2 = v ∧ q2 = q := by omega
    rw [if_pos (by unfold pcOf; rw [ec, ev, eq])]
    rfl
  · rw [if_neg e, h.2 c2 v2 q2 h1 h2 h3]
    rw [if_neg (fun e2 => by
      unfold pcOf at e2
      simp only [Prod.mk.injEq] at e2
      omega)]
theorem ends_le {l : List Rng} {k : Int × Int × Int} {lo : Int} (h : 0 ≤ lo) : (endOf l k).getD 0 ≤ lo ↔ ∀ e, endOf l k = some e → e ≤ lo := by
  cases endOf l k with
  | none => simp [h]
  | some e => simp
set_option maxHeartbeats 40000000 in
set_option maxRecDepth 100000 in
theorem refRanges_any (t : PTab) (y : Value) (w : World) (hy : RngsIn w y t.ranges) (hI : t.I) (hlo : 0 ≤ t.lo) :
    Calls Try.prog 70 #[.agg #[.int .i64 t.lo, .int .i64 t.hi, y]] w (Tells (okRngs t.lo t.hi t.ranges) w) := by
  obtain ⟨A2, c2, rfl⟩ := hy.form
  obtain ⟨n2, hn2⟩ : ∃ n, n = t.ranges.length := ⟨_, rfl⟩
  have hlen2 : n2 ≤ 9223372036854775807 := by rw [hn2]; exact hI.len
  have HY := Lib.hid hy
  have HPI := Lib.hid hI.places
  rw [← hn2] at HY ⊢
  have HN2 := Lib.hid hn2
  clear hy hn2
  go_enter Try.func70, Try.ntmps70
  go_upto_region 1 with fail
  obtain ⟨W, hW, hE, hB⟩ : ∃ W, W = w.alloc (.cells #[.int .i64 t.lo, .int .i64 t.hi, .slice A2 n2 c2] 66) ∧ Ext w W ∧ W.heap[w.heap.size]? = some (.cells #[.int .i64 t.lo, .int .i64 t.hi, .slice A2 n2 c2] 66 (0, 0)) := ⟨_, rfl, (Ext.refl w).alloc _, heap_alloc_new w _⟩
  rw [← hW]
  obtain ⟨g1, hg1⟩ : ∃ g, g = w.heap.size := ⟨_, rfl⟩
  rw [← hg1] at hB ⊢
  clear hW
  have hal := run_alloc_ae W
  have hSe := EndsA.start
  generalize Array.replicate 24576 (Value.int .i64 0) = C0 at *
  go_upto_region 2 with first | refine wpList_run rfl _ (by unfold execOp; simp only [Sem.run_bind, hal, Result.andThen_ok, Sem.run_pure]; rfl) ?_
  have hG3 := heap_alloc_new W (.cells C0 160)
  have hXA := (Ext.refl W).alloc (.cells C0 160)
  obtain ⟨g3, hg3⟩ : ∃ g, g = W.heap.size := ⟨_, rfl⟩
  have hg3w : w.heap.size ≤ g3 := by rw [hg3]; exact hE.size
  have hg31 : g3 ≠ g1 := by have := heap_lt hB; omega
  rw [← hg3] at hG3 ⊢
  have hE1 := hE.trans hXA
  have hB1 := hXA.heap hB
  clear hal hg3 hE hB hXA hg1
  generalize W.alloc (.cells C0 160) = W1 at *
  obtain ⟨q0, q1, q2⟩ := blkT hB1
  go_wp2_with fail
  clear q0 q1 q2
  go_loopw [11] (fun i wr => ∃ (j : Nat) (C : Array Value), j ≤ n2 ∧ i = .int .i64 (j : Int) ∧ Hid (PreOk t.lo t.hi t.ranges j) ∧ Hid (EndsA C (t.ranges.take j)) ∧ wr.heap[g3]? = some (.cells C 160 (0, 0)) ∧ wr.heap[g1]? = some (.cells #[.int .i64 t.lo, .int .i64 t.hi, .slice A2 n2 c2] 66 (0, 0)) ∧ Ext w wr) (fun i _ => n2 - (intOf i).toNat)
  case atStart => exact ⟨0, C0, by omega, rfl, Lib.hid (fun i h h2 => absurd h2 (by omega)), Lib.hid (by rw [List.take_zero]; exact hSe), hG3, hB1, hE1⟩
  case round =>
    clear hSe hG3 hB1 hE1
    obtain ⟨j, C, hj, rfl, HP, HS, hG3, hB, hX⟩ := hrel
    obtain ⟨wo, rfl⟩ : ∃ wo : World, wo = wr := ⟨_, rfl⟩
    by_cases hlt : j < n2
    · have hij : (j : Int) < (n2 : Int) := by omega
      have hlt' : j < t.ranges.length := by rw [← HN2.out]; exact hlt
      have hat := fun (i : Nat) (hi : i < t.ranges.length) => (HY.out.ext hX).at_ hi
      obtain ⟨bb, oo, yp, hAe, hra0, hpl0⟩ := HY.out.at_ hlt'
      have hra : wo.rangeAt bb (oo + j * 6) (rngCells (t.ranges[j], yp)) := fun i u hu => hX.cell (hra0 i u hu)
      subst hAe
      have HNO : Hid (¬ okAt t.lo t.hi (t.ranges.take j) t.ranges[j] → ¬ okRngs t.lo t.hi t.ranges) := Lib.hid (fun h h2 => h (h2 j hlt'))
      have HSU : Hid (okAt t.lo t.hi (t.ranges.take j) t.ranges[j] → PreOk t.lo t.hi t.ranges (j + 1)) := Lib.hid (fun h => HP.out.succ hlt' h)
      have HTK := Lib.hid (List.take_succ_eq_append_getElem hlt')
      have HPR : Hid (0 < j → ∃ p A n c, t.ranges[j - 1]? = some p ∧ (t.ranges.take j).getLast? = some p ∧ wo.rangeAt bb (oo + (j - 1) * 6) (rngCells (p, .slice A n c))) := Lib.hid (fun h0 => by
        obtain ⟨b3, o3, y3, he, hr3, hp3⟩ := hat (j - 1) (by omega)
        injection he with he
        injection he with e1 e2 _
        subst e1 e2
        obtain ⟨A', c', rfl, _, _⟩ := hp3
        refine ⟨t.ranges[j - 1], A', _, c', List.getElem?_eq_getElem (by omega), ?_, hr3⟩
        rw [List.getLast?_eq_getElem?, List.length_take, Nat.min_eq_left (by omega), List.getElem?_take, if_pos (by omega), List.getElem?_eq_getElem])
      have HP0 : Hid (j = 0 → (t.ranges.take j).getLast? = none) := Lib.hid (fun h => by subst h; rfl)
      have hpln := HPI.out _ (List.getElem_mem hlt')
      clear hat
      generalize hpre : t.ranges.take j = pre at *
      generalize t.ranges[j] = r at *
      clear hra0
      obtain ⟨A5, c5, rfl, _, _⟩ := id hpl0
      obtain ⟨n5, hn5⟩ : ∃ n, n = r.places.length := ⟨_, rfl⟩
      have hld := rng_load hra
      rw [← hn5] at hld hpl0 hpln
      have HN5 := Lib.hid hn5
      have HPW := Lib.hid hpl0
      clear hn5 hpl0
      obtain ⟨hst, hG, hXG⟩ := box_new (P := Try.prog) wo 69 #[.int .i64 0, .int .i64 0, .int .i64 0, .int .i64 0, .int .i64 0, .slice none 0 0] #[.int .i64 r.ctx, .int .i64 r.var, .int .i64 r.piece, .int .i64 r.lo, .int .i64 r.hi, .slice A5 n5 c5] rg_size rfl (by simp [Value.oneCell'])
      go_upto_region 5 with first | refine wpList_load_run rfl 69 (.tmp 14) rfl _ _ rfl hld ?_ | refine wpList_store_run rfl 69 (.tmp 5) (.tmp 15) rfl _ _ _ rfl rfl hst ?_
      obtain ⟨g5, hg5⟩ : ∃ g, g = wo.heap.size := ⟨_, rfl⟩
      have hg53 : g3 ≠ g5 := by have := heap_lt hG3; omega
      rw [← hg5] at hG hXG ⊢
      generalize (wo.alloc (.cells #[.int .i64 0, .int .i64 0, .int .i64 0, .int .i64 0, .int .i64 0, .slice none 0 0] 69)).setRow g5 #[.int .i64 r.ctx, .int .i64 r.var, .int .i64 r.piece, .int .i64 r.lo, .int .i64 r.hi, .slice A5 n5 c5] = wg at *
      dsimp only [Act.put]
      have hXg := hX.trans hXG
      have hBg := hXG.heap hB
      have hCg := hXG.heap hG3
      have HPG : Hid (0 < j → ∃ p A n c, t.ranges[j - 1]? = some p ∧ pre.getLast? = some p ∧ wg.rangeAt bb (oo + (j - 1) * 6) (rngCells (p, .slice A n c))) := Lib.hid (fun h0 => by
        obtain ⟨p, A, n, c, h1, h2, h3⟩ := HPR.out h0
        exact ⟨p, A, n, c, h1, h2, fun i u hu => hXG.cell (h3 i u hu)⟩)
      obtain ⟨r0, r1, r2, r3, r4, r5⟩ := blk6 hG
      obtain ⟨t0, t1, t2⟩ := blkT hBg
      clear hst hld hra hXG hX hB hG3 hg5 HPR
      go_cut [76] (fun s wx => ∃ d : Bool, s = .bool d ∧ (d = false ↔ ((t.lo ≤ r.lo ∧ r.lo < r.hi ∧ r.hi ≤ t.hi) ∧ (0 ≤ r.ctx ∧ r.ctx ≤ 255) ∧ (0 ≤ r.var ∧ r.var < 24) ∧ (0 ≤ r.piece ∧ r.piece < 4) ∧ 1 ≤ n5 ∧ n5 ≤ 40)) ∧ wx = wg)
      case first =>
        by_cases e1 : r.lo < t.lo
        case pos =>
          have t1' : decide (r.lo < t.lo) = true := by first | (simpa using e1) | (simp; omega)
          go_wp2_with fail
          go_meet
          exact ⟨true, rfl, ⟨fun h => (by cases h), fun h => (by omega)⟩, rfl⟩
        have t1' : decide (r.lo < t.lo) = false := by first | (simpa using e1) | (simp; omega)
        by_cases e2 : r.hi ≤ r.lo
        case pos =>
          have t2' : decide (r.hi ≤ r.lo) = true := by first | (simpa using e2) | (simp; omega)
          go_wp2_with fail
          go_meet
          exact ⟨true, rfl, ⟨fun h => (by cases h), fun h => (by omega)⟩, rfl⟩
        have t2' : decide (r.hi ≤ r.lo) = false := by first | (simpa using e2) | (simp; omega)
        by_cases e3 : t.hi < r.hi
        case pos =>
          have t3' : decide (t.hi < r.hi) = true := by first | (simpa using e3) | (simp; omega)
          go_wp2_with fail
          go_meet
          exact ⟨true, rfl, ⟨fun h => (by cases h), fun h => (by omega)⟩, rfl⟩
        have t3' : decide (t.hi < r.hi) = false := by first | (simpa using e3) | (simp; omega)
        by_cases e4 : r.ctx < 0
        case pos =>
          have t4' : decide (r.ctx < 0) = true := by first | (simpa using e4) | (simp; omega)
          go_wp2_with fail
          go_meet
          exact ⟨true, rfl, ⟨fun h => (by cases h), fun h => (by omega)⟩, rfl⟩
        have t4' : decide (r.ctx < 0) = false := by first | (simpa using e4) | (simp; omega)
        by_cases e5 : 255 < r.ctx
        case pos =>
          have t5' : decide (255 < r.ctx) = true := by first | (simpa using e5) | (simp; omega)
          go_wp2_with fail
          go_meet
          exact ⟨true, rfl, ⟨fun h => (by cases h), fun h => (by omega)⟩, rfl⟩
        have t5' : decide (255 < r.ctx) = false := by first | (simpa using e5) | (simp; omega)
        by_cases e6 : r.var < 0
        case pos =>
          have t6' : decide (r.var < 0) = true := by first | (simpa using e6) | (simp; omega)
          go_wp2_with fail
          go_meet
          exact ⟨true, rfl, ⟨fun h => (by cases h), fun h => (by omega)⟩, rfl⟩
        have t6' : decide (r.var < 0) = false := by first | (simpa using e6) | (simp; omega)
        by_cases e7 : 24 ≤ r.var
        case pos =>
          have t7' : decide (24 ≤ r.var) = true := by first | (simpa using e7) | (simp; omega)
          go_wp2_with fail
          go_meet
          exact ⟨true, rfl, ⟨fun h => (by cases h), fun h => (by omega)⟩, rfl⟩
        have t7' : decide (24 ≤ r.var) = false := by first | (simpa using e7) | (simp; omega)
        by_cases e8 : r.piece < 0
        case pos =>
          have t8' : decide (r.piece < 0) = true := by first | (simpa using e8) | (simp; omega)
          go_wp2_with fail
          go_meet
          exact ⟨true, rfl, ⟨fun h => (by cases h), fun h => (by omega)⟩, rfl⟩
        have t8' : decide (r.piece < 0) = false := by first | (simpa using e8) | (simp; omega)
        by_cases e9 : 4 ≤ r.piece
        case pos =>
          have t9' : decide (4 ≤ r.piece) = true := by first | (simpa using e9) | (simp; omega)
          go_wp2_with fail
          go_meet
          exact ⟨true, rfl, ⟨fun h => (by cases h), fun h => (by omega)⟩, rfl⟩
        have t9' : decide (4 ≤ r.piece) = false := by first | (simpa using e9) | (simp; omega)
        by_cases e10 : n5 < 1
        case pos =>
          have t10' : decide ((n5 : Int) < 1) = true := by first | (simpa using e10) | (simp; omega)
          go_wp2_with fail
          go_meet
          exact ⟨true, rfl, ⟨fun h => (by cases h), fun h => (by omega)⟩, rfl⟩
        have t10' : decide ((n5 : Int) < 1) = false := by first | (simpa using e10) | (simp; omega)
        by_cases e11 : 40 < n5
        case pos =>
          have t11' : decide ((40 : Int) < (n5 : Int)) = true := by first | (simpa using e11) | (simp; omega)
          go_wp2_with fail
          go_meet
          exact ⟨true, rfl, ⟨fun h => (by cases h), fun h => (by omega)⟩, rfl⟩
        have t11' : decide ((40 : Int) < (n5 : Int)) = false := by first | (simpa using e11) | (simp; omega)
        go_wp2_with fail
        go_meet
        exact ⟨false, rfl, ⟨fun _ => (by omega), fun _ => rfl⟩, rfl⟩
      obtain ⟨d, rfl, hd, hwe⟩ := hcut
      subst hwe
      obtain ⟨w7, rfl⟩ : ∃ W : World, W = wc := ⟨_, rfl⟩
      cases d with
      | true =>
        go_wp2_with fail
        go_ret
        refine Tells.no (fun h => ?_) hXg
        exact HNO.out (fun ho => by
          have h1 := ho.1
          have h2 := ho.2.1.1
          have h3 := ho.2.1.2.1
          unfold okNum at h1
          rw [← HN5.out] at h2 h3
          have := hd.2 (by omega)
          cases this) h
      | false =>
      have hok := hd.1 rfl
      clear hd
      have HNU : Hid (okNum t.lo t.hi r) := Lib.hid (by unfold okNum; omega)
      obtain ⟨c, hc⟩ : ∃ c : Nat, r.ctx = (c : Int) := ⟨r.ctx.toNat, by omega⟩
      obtain ⟨v, hv⟩ : ∃ v : Nat, r.var = (v : Int) := ⟨r.var.toNat, by omega⟩
      obtain ⟨q, hq⟩ : ∃ v : Nat, r.piece = (v : Int) := ⟨r.piece.toNat, by omega⟩
      have hn40 : n5 ≤ 40 := by omega
      have HN1 : Hid (1 ≤ n5) := Lib.hid (by omega)
      have HRL : Hid (0 ≤ r.lo) := Lib.hid (by omega)
      have hcell := blk_at hCg (c * 96 + v * 4 + q) _ (HS.out.2 c v q (by omega) (by omega) (by omega))
      have HPC : Hid (((c : Int), (v : Int), (q : Int)) = pcOf r) := Lib.hid (by unfold pcOf; rw [hc, hv, hq])
      have i1 : (c : Int) < 256 := by omega
      have i2 : (v : Int) < 24 := by omega
      have i3 : (q : Int) < 4 := by omega
      rw [HPC.out] at hcell
      obtain ⟨ev, hev⟩ : ∃ e, e = (endOf pre (pcOf r)).getD 0 := ⟨_, rfl⟩
      rw [← hev] at hcell
      have HEV : Hid (ev ≤ r.lo ↔ ∀ e, endOf pre (pcOf r) = some e → e ≤ r.lo) := Lib.hid (by rw [hev]; exact ends_le HRL.out)
      rw [hc, hv, hq] at hG
      rw [hc] at r0
      rw [hv] at r1
      rw [hq] at r2
      clear hok hev
      go_upto_region 7 with fail
      go_cut [106] (fun s wx => ∃ d : Bool, s = .bool d ∧ (d = false ↔ ((∀ p, pre.getLast? = some p → ltK p r) ∧ ev ≤ r.lo)) ∧ Ext w7 wx)
      case first =>
        by_cases h0 : 0 < j
        case neg =>
          have d0 : decide (0 < j) = false := by simp; omega
          have HL0 : Hid (∀ p, pre.getLast? = some p → ltK p r) := Lib.hid (fun p hp => by rw [HP0.out (by omega)] at hp; cases hp)
          by_cases hel : r.lo < ev
          · have del : decide (r.lo < ev) = true := by simpa using hel
            clear hel
            go_quiet (fail)
            go_wp2_with fail
            go_meet
            exact ⟨true, rfl, ⟨fun h => (by cases h), fun h => (by rw [decide_eq_true_eq] at del; omega)⟩, (Ext.refl _).drewN _⟩
          · have del : decide (r.lo < ev) = false := by simpa using hel
            go_quiet (fail)
            go_wp2_with fail
            go_meet
            exact ⟨false, rfl, ⟨fun _ => ⟨HL0.out, by omega⟩, fun _ => rfl⟩, (Ext.refl _).drewN _⟩
        obtain ⟨j1, hj1⟩ : ∃ j1, j = j1 + 1 := ⟨j - 1, by omega⟩
        obtain ⟨p, A8, n8, c8, hp1, hp2, hp3⟩ := HPG.out h0
        have d0 : decide (0 < j) = true := by simp; omega
        have d0' : decide ((0 : Int) < (j : Int)) = true := by simp; omega
        have wk : IntKind.i64.wrap ((j : Int) - 1) = (j1 : Int) := by rw [IntKind.wrap_i64]; omega
        have hkl : (j1 : Int) < (n2 : Int) := by omega
        rw [show j - 1 = j1 by omega] at hp3
        have HLG := Lib.hid hp2
        clear hj1 hp1 h0 hp2
        refine wp_region_Z #[true, true, true, true, true, true, true, true, true, true, true, true, true, true, true, true, true, true, true, true, true, true, true, true, true, true, true, true, true, true] none 30 0 (by kernel_rfl) rfl ?_
        refine wpZ_v 0 (.int .i64 (j : Int)) rfl rfl (by kernel_rfl) (by kernel_rfl) (by kernel_rfl) (fun _ _ _ _ h => h) (by kernel_rfl) rfl (by rfl) (fun W' hW => by
          skip
          go_simp) ?_
        simp only [List.setIfInBounds_toArray, List.set_cons_zero, List.set_cons_succ]
        refine wpZ_v 1 (.bool true) rfl rfl (by kernel_rfl) (by kernel_rfl) (by kernel_rfl) (fun _ _ _ _ h => h) (by kernel_rfl) rfl (by rfl) (fun W' hW => by
          skip
          go_simp) ?_
        simp only [List.setIfInBounds_toArray, List.set_cons_zero, List.set_cons_succ]
        refine wpZ_v 2 (.bool true) rfl rfl (by kernel_rfl) (by kernel_rfl) (by kernel_rfl) (fun _ _ _ _ h => h) (by kernel_rfl) rfl (by rfl) (fun W' hW => by
          skip
          go_simp) ?_
        simp only [List.setIfInBounds_toArray, List.set_cons_zero, List.set_cons_succ]
        refine wpZ_v 3 (.pointer (some ⟨g1, 2, none⟩)) rfl rfl (by kernel_rfl) (by kernel_rfl) (by kernel_rfl) (fun _ _ _ _ h => h) (by kernel_rfl) rfl (by rfl) (fun W' hW => by
          skip
          go_simp) ?_
        simp only [List.setIfInBounds_toArray, List.set_cons_zero, List.set_cons_succ]
        refine wpZ_v 4 (.slice (some ⟨bb, oo, none⟩) n2 c2) rfl rfl (by kernel_rfl) (by kernel_rfl) (by kernel_rfl) (fun _ _ _ _ h => h) (by kernel_rfl) rfl (by rfl) (fun W' hW => by
          have z0 := ((Ext.refl w7).drew).trans (ext_of_none hW)
          have z := z0.cell t2
          go_simp) ?_
        simp only [List.setIfInBounds_toArray, List.set_cons_zero, List.set_cons_succ]
        refine wpZ_v 5 (.int .i64 (j : Int)) rfl rfl (by kernel_rfl) (by kernel_rfl) (by kernel_rfl) (fun _ _ _ _ h => h) (by kernel_rfl) rfl (by rfl) (fun W' hW => by
          skip
          go_simp) ?_
        simp only [List.setIfInBounds_toArray, List.set_cons_zero, List.set_cons_succ]
        refine wpZ_v 6 (.int .i64 (j1 : Int)) rfl rfl (by kernel_rfl) (by kernel_rfl) (by kernel_rfl) (fun _ _ _ _ h => h) (by kernel_rfl) rfl (by rfl) (fun W' hW => by
          skip
          go_simp) ?_
        simp only [List.setIfInBounds_toArray, List.set_cons_zero, List.set_cons_succ]
        refine wpZ_v 7 (.pointer (some ⟨bb, oo + j1 * 6, none⟩)) rfl rfl (by kernel_rfl) (by kernel_rfl) (by kernel_rfl) (fun _ _ _ _ h => h) (by kernel_rfl) rfl (by rfl) (fun W' hW => by
          skip
          go_simp) ?_
        simp only [List.setIfInBounds_toArray, List.set_cons_zero, List.set_cons_succ]
        refine wpZ_v 8 (.agg #[.int .i64 p.ctx, .int .i64 p.var, .int .i64 p.piece, .int .i64 p.lo, .int .i64 p.hi, .slice A8 n8 c8]) rfl rfl (by kernel_rfl) (by kernel_rfl) (by kernel_rfl) (fun _ _ _ _ h => h) (by kernel_rfl) rfl (by rfl) (fun W' hW => exec_load19 69 (.tmp 84) rfl _ _ rfl (rng_load (fun i u hu => (((Ext.refl w7).drew).trans (ext_of_none hW)).cell (hp3 i u hu)))) ?_
        simp only [List.setIfInBounds_toArray, List.set_cons_zero, List.set_cons_succ]
        refine wpZ_v 10 (.agg #[.int .i64 (c : Int), .int .i64 (v : Int), .int .i64 (q : Int), .int .i64 r.lo, .int .i64 r.hi, .slice A5 n5 c5]) rfl rfl (by kernel_rfl) (by kernel_rfl) (by kernel_rfl) (fun _ _ _ _ h => h) (by kernel_rfl) rfl (by rfl) (fun W' hW => exec_load19 69 (.tmp 5) rfl _ _ rfl (run_loadAt_blk (P := Try.prog) W' g5 69 69 _ (0, 0) _ ((((Ext.refl w7).drew).trans (ext_of_none hW)).heap hG) Try.underlying69 rfl rg_size)) ?_
        simp only [List.setIfInBounds_toArray, List.set_cons_zero, List.set_cons_succ]
        refine wpZ_c 9 97 #[.agg #[.int .i64 p.ctx, .int .i64 p.var, .int .i64 p.piece, .int .i64 p.lo, .int .i64 p.hi, .slice A8 n8 c8]] rfl rfl (by kernel_rfl) rfl (by rfl) (fun W => by go_simp) ?_
        intro W8 hW8
        refine (key_any p _ W8 ⟨_, _, _, rfl⟩).mono ?_
        rintro en w8' ⟨rfl, he8⟩
        have hX8 := (((Ext.refl w7).drew).trans hW8).trans he8
        refine ⟨_, rfl, he8.grownBy _, ?_⟩
        simp only [List.setIfInBounds_toArray, List.set_cons_zero, List.set_cons_succ]
        clear hW8 he8
        refine wpZ_c 11 97 #[.agg #[.int .i64 (c : Int), .int .i64 (v : Int), .int .i64 (q : Int), .int .i64 r.lo, .int .i64 r.hi, .slice A5 n5 c5]] rfl rfl (by kernel_rfl) rfl (by rfl) (fun W => by go_simp) ?_
        intro W9 hW9
        rw [show (#[.agg #[.int .i64 (c : Int), .int .i64 (v : Int), .int .i64 (q : Int), .int .i64 r.lo, .int .i64 r.hi, .slice A5 n5 c5]] : Array Value) = #[.agg #[.int .i64 r.ctx, .int .i64 r.var, .int .i64 r.piece, .int .i64 r.lo, .int .i64 r.hi, .slice A5 n5 c5]] by rw [hc, hv, hq]]
        refine (key_any r _ W9 ⟨_, _, _, rfl⟩).mono ?_
        rintro en w9' ⟨rfl, he9⟩
        have hX9 := (hX8.trans hW9).trans he9
        refine ⟨_, rfl, he9.grownBy _, ?_⟩
        simp only [List.setIfInBounds_toArray, List.set_cons_zero, List.set_cons_succ]
        clear hW9 he9 hX8
        refine wpZ_c 12 96 #[keyV p, keyV r] rfl rfl (by kernel_rfl) rfl (by rfl) (fun W => by go_simp) ?_
        intro WA hWA
        refine (less_any p r WA).mono ?_
        rintro en wA' ⟨lb, rfl, hlb, heA⟩
        have hXA := (hX9.trans hWA).trans heA
        refine ⟨_, rfl, heA.grownBy _, ?_⟩
        simp only [List.setIfInBounds_toArray, List.set_cons_zero, List.set_cons_succ]
        clear hWA heA hX9
        have HLB : Hid (lb = true ↔ ∀ p, pre.getLast? = some p → ltK p r) := Lib.hid (by
          rw [hlb]
          constructor
          · intro h p' hp'
            rw [HLG.out] at hp'
            injection hp' with hp'
            subst hp'
            exact h
          · intro h
            exact h p HLG.out)
        clear hlb
        cases lb with
        | false =>
          refine wpZ_v 13 (.bool true) rfl rfl (by kernel_rfl) (by kernel_rfl) (by kernel_rfl) (fun _ _ _ _ h => h) (by kernel_rfl) rfl (by rfl) (fun W' hW => by
            skip
            go_simp) ?_
          simp only [List.setIfInBounds_toArray, List.set_cons_zero, List.set_cons_succ]
          refine wpZ_v 14 (.bool true) rfl rfl (by kernel_rfl) (by kernel_rfl) (by kernel_rfl) (fun _ _ _ _ h => h) (by kernel_rfl) rfl (by rfl) (fun W' hW => by
            skip
            go_simp) ?_
          simp only [List.setIfInBounds_toArray, List.set_cons_zero, List.set_cons_succ]
          refine wpZ_v 15 (.bool true) rfl rfl (by kernel_rfl) (by kernel_rfl) (by kernel_rfl) (fun _ _ _ _ h => h) (by kernel_rfl) rfl (by rfl) (fun W' hW => by
            skip
            go_simp) ?_
          simp only [List.setIfInBounds_toArray, List.set_cons_zero, List.set_cons_succ]
          refine wpZ_u 16 rfl rfl (by kernel_rfl) (by kernel_rfl) (by kernel_rfl) (fun _ _ _ _ h => h) (by kernel_rfl) rfl (by rfl) ?_
          simp only [List.setIfInBounds_toArray, List.set_cons_zero, List.set_cons_succ]
          refine wpZ_u 17 rfl rfl (by kernel_rfl) (by kernel_rfl) (by kernel_rfl) (fun _ _ _ _ h => h) (by kernel_rfl) rfl (by rfl) ?_
          simp only [List.setIfInBounds_toArray, List.set_cons_zero, List.set_cons_succ]
          refine wpZ_u 18 rfl rfl (by kernel_rfl) (by kernel_rfl) (by kernel_rfl) (fun _ _ _ _ h => h) (by kernel_rfl) rfl (by rfl) ?_
          simp only [List.setIfInBounds_toArray, List.set_cons_zero, List.set_cons_succ]
          refine wpZ_u 19 rfl rfl (by kernel_rfl) (by kernel_rfl) (by kernel_rfl) (fun _ _ _ _ h => h) (by kernel_rfl) rfl (by rfl) ?_
          simp only [List.setIfInBounds_toArray, List.set_cons_zero, List.set_cons_succ]
          refine wpZ_u 20 rfl rfl (by kernel_rfl) (by kernel_rfl) (by kernel_rfl) (fun _ _ _ _ h => h) (by kernel_rfl) rfl (by rfl) ?_
          simp only [List.setIfInBounds_toArray, List.set_cons_zero, List.set_cons_succ]
          refine wpZ_u 21 rfl rfl (by kernel_rfl) (by kernel_rfl) (by kernel_rfl) (fun _ _ _ _ h => h) (by kernel_rfl) rfl (by rfl) ?_
          simp only [List.setIfInBounds_toArray, List.set_cons_zero, List.set_cons_succ]
          refine wpZ_u 22 rfl rfl (by kernel_rfl) (by kernel_rfl) (by kernel_rfl) (fun _ _ _ _ h => h) (by kernel_rfl) rfl (by rfl) ?_
          simp only [List.setIfInBounds_toArray, List.set_cons_zero, List.set_cons_succ]
          refine wpZ_u 23 rfl rfl (by kernel_rfl) (by kernel_rfl) (by kernel_rfl) (fun _ _ _ _ h => h) (by kernel_rfl) rfl (by rfl) ?_
          simp only [List.setIfInBounds_toArray, List.set_cons_zero, List.set_cons_succ]
          refine wpZ_u 24 rfl rfl (by kernel_rfl) (by kernel_rfl) (by kernel_rfl) (fun _ _ _ _ h => h) (by kernel_rfl) rfl (by rfl) ?_
          simp only [List.setIfInBounds_toArray, List.set_cons_zero, List.set_cons_succ]
          refine wpZ_u 25 rfl rfl (by kernel_rfl) (by kernel_rfl) (by kernel_rfl) (fun _ _ _ _ h => h) (by kernel_rfl) rfl (by rfl) ?_
          simp only [List.setIfInBounds_toArray, List.set_cons_zero, List.set_cons_succ]
          refine wpZ_u 26 rfl rfl (by kernel_rfl) (by kernel_rfl) (by kernel_rfl) (fun _ _ _ _ h => h) (by kernel_rfl) rfl (by rfl) ?_
          simp only [List.setIfInBounds_toArray, List.set_cons_zero, List.set_cons_succ]
          refine wpZ_u 27 rfl rfl (by kernel_rfl) (by kernel_rfl) (by kernel_rfl) (fun _ _ _ _ h => h) (by kernel_rfl) rfl (by rfl) ?_
          simp only [List.setIfInBounds_toArray, List.set_cons_zero, List.set_cons_succ]
          refine wpZ_u 28 rfl rfl (by kernel_rfl) (by kernel_rfl) (by kernel_rfl) (fun _ _ _ _ h => h) (by kernel_rfl) rfl (by rfl) ?_
          simp only [List.setIfInBounds_toArray, List.set_cons_zero, List.set_cons_succ]
          refine wpZ_v 29 (.bool true) rfl rfl (by kernel_rfl) (by kernel_rfl) (by kernel_rfl) (fun _ _ _ _ h => h) (by kernel_rfl) rfl (by rfl) (fun W' hW => by
            skip
            go_simp) ?_
          simp only [List.setIfInBounds_toArray, List.set_cons_zero, List.set_cons_succ]
          refine wpZ_end rfl fun WB hWB => tail_none (by kernel_rfl) ?_
          refine NoPanic.normal ?_
          have hXB := hXA.trans hWB
          clear hXA hWB
          go_wp2_with fail
          go_meet
          exact ⟨true, rfl, ⟨fun h => (by cases h), fun h => (by have := HLB.out.2 h.1; cases this)⟩, hXB⟩
        | true =>
          refine wpZ_v 13 (.bool false) rfl rfl (by kernel_rfl) (by kernel_rfl) (by kernel_rfl) (fun _ _ _ _ h => h) (by kernel_rfl) rfl (by rfl) (fun W' hW => by
            skip
            go_simp) ?_
          simp only [List.setIfInBounds_toArray, List.set_cons_zero, List.set_cons_succ]
          refine wpZ_v 14 (.bool false) rfl rfl (by kernel_rfl) (by kernel_rfl) (by kernel_rfl) (fun _ _ _ _ h => h) (by kernel_rfl) rfl (by rfl) (fun W' hW => by
            skip
            go_simp) ?_
          simp only [List.setIfInBounds_toArray, List.set_cons_zero, List.set_cons_succ]
          refine wpZ_v 15 (.bool false) rfl rfl (by kernel_rfl) (by kernel_rfl) (by kernel_rfl) (fun _ _ _ _ h => h) (by kernel_rfl) rfl (by rfl) (fun W' hW => by
            skip
            go_simp) ?_
          simp only [List.setIfInBounds_toArray, List.set_cons_zero, List.set_cons_succ]
          refine wpZ_v 16 (.pointer (some ⟨g5, 0, none⟩)) rfl rfl (by kernel_rfl) (by kernel_rfl) (by kernel_rfl) (fun _ _ _ _ h => h) (by kernel_rfl) rfl (by rfl) (fun W' hW => by
            skip
            go_simp) ?_
          simp only [List.setIfInBounds_toArray, List.set_cons_zero, List.set_cons_succ]
          refine wpZ_v 17 (.int .i64 (c : Int)) rfl rfl (by kernel_rfl) (by kernel_rfl) (by kernel_rfl) (fun _ _ _ _ h => h) (by kernel_rfl) rfl (by rfl) (fun W' hW => by
            have z0 := hXA.trans (ext_of_none hW)
            have z := z0.cell r0
            go_simp) ?_
          simp only [List.setIfInBounds_toArray, List.set_cons_zero, List.set_cons_succ]
          refine wpZ_v 18 (.pointer (some ⟨g5, 1, none⟩)) rfl rfl (by kernel_rfl) (by kernel_rfl) (by kernel_rfl) (fun _ _ _ _ h => h) (by kernel_rfl) rfl (by rfl) (fun W' hW => by
            skip
            go_simp) ?_
          simp only [List.setIfInBounds_toArray, List.set_cons_zero, List.set_cons_succ]
          refine wpZ_v 19 (.int .i64 (v : Int)) rfl rfl (by kernel_rfl) (by kernel_rfl) (by kernel_rfl) (fun _ _ _ _ h => h) (by kernel_rfl) rfl (by rfl) (fun W' hW => by
            have z0 := hXA.trans (ext_of_none hW)
            have z := z0.cell r1
            go_simp) ?_
          simp only [List.setIfInBounds_toArray, List.set_cons_zero, List.set_cons_succ]
          refine wpZ_v 20 (.pointer (some ⟨g5, 2, none⟩)) rfl rfl (by kernel_rfl) (by kernel_rfl) (by kernel_rfl) (fun _ _ _ _ h => h) (by kernel_rfl) rfl (by rfl) (fun W' hW => by
            skip
            go_simp) ?_
          simp only [List.setIfInBounds_toArray, List.set_cons_zero, List.set_cons_succ]
          refine wpZ_v 21 (.int .i64 (q : Int)) rfl rfl (by kernel_rfl) (by kernel_rfl) (by kernel_rfl) (fun _ _ _ _ h => h) (by kernel_rfl) rfl (by rfl) (fun W' hW => by
            have z0 := hXA.trans (ext_of_none hW)
            have z := z0.cell r2
            go_simp) ?_
          simp only [List.setIfInBounds_toArray, List.set_cons_zero, List.set_cons_succ]
          refine wpZ_v 22 (.pointer (some ⟨g3, c * 96, none⟩)) rfl rfl (by kernel_rfl) (by kernel_rfl) (by kernel_rfl) (fun _ _ _ _ h => h) (by kernel_rfl) rfl (by rfl) (fun W' hW => by
            skip
            go_simp) ?_
          simp only [List.setIfInBounds_toArray, List.set_cons_zero, List.set_cons_succ]
          refine wpZ_v 23 (.pointer (some ⟨g3, c * 96 + v * 4, none⟩)) rfl rfl (by kernel_rfl) (by kernel_rfl) (by kernel_rfl) (fun _ _ _ _ h => h) (by kernel_rfl) rfl (by rfl) (fun W' hW => by
            skip
            go_simp) ?_
          simp only [List.setIfInBounds_toArray, List.set_cons_zero, List.set_cons_succ]
          refine wpZ_v 24 (.pointer (some ⟨g3, c * 96 + v * 4 + q, none⟩)) rfl rfl (by kernel_rfl) (by kernel_rfl) (by kernel_rfl) (fun _ _ _ _ h => h) (by kernel_rfl) rfl (by rfl) (fun W' hW => by
            skip
            go_simp) ?_
          simp only [List.setIfInBounds_toArray, List.set_cons_zero, List.set_cons_succ]
          refine wpZ_v 25 (.int .i64 ev) rfl rfl (by kernel_rfl) (by kernel_rfl) (by kernel_rfl) (fun _ _ _ _ h => h) (by kernel_rfl) rfl (by rfl) (fun W' hW => by
            have z0 := hXA.trans (ext_of_none hW)
            have z := z0.cell hcell
            go_simp) ?_
          simp only [List.setIfInBounds_toArray, List.set_cons_zero, List.set_cons_succ]
          refine wpZ_v 26 (.pointer (some ⟨g5, 3, none⟩)) rfl rfl (by kernel_rfl) (by kernel_rfl) (by kernel_rfl) (fun _ _ _ _ h => h) (by kernel_rfl) rfl (by rfl) (fun W' hW => by
            skip
            go_simp) ?_
          simp only [List.setIfInBounds_toArray, List.set_cons_zero, List.set_cons_succ]
          refine wpZ_v 27 (.int .i64 r.lo) rfl rfl (by kernel_rfl) (by kernel_rfl) (by kernel_rfl) (fun _ _ _ _ h => h) (by kernel_rfl) rfl (by rfl) (fun W' hW => by
            have z0 := hXA.trans (ext_of_none hW)
            have z := z0.cell r3
            go_simp) ?_
          simp only [List.setIfInBounds_toArray, List.set_cons_zero, List.set_cons_succ]
          refine wpZ_v 28 (.bool (decide (r.lo < ev))) rfl rfl (by kernel_rfl) (by kernel_rfl) (by kernel_rfl) (fun _ _ _ _ h => h) (by kernel_rfl) rfl (by rfl) (fun W' hW => by
            skip
            go_simp) ?_
          simp only [List.setIfInBounds_toArray, List.set_cons_zero, List.set_cons_succ]
          refine wpZ_v 29 (.bool (decide (r.lo < ev))) rfl rfl (by kernel_rfl) (by kernel_rfl) (by kernel_rfl) (fun _ _ _ _ h => h) (by kernel_rfl) rfl (by rfl) (fun W' hW => by
            skip
            go_simp) ?_
          simp only [List.setIfInBounds_toArray, List.set_cons_zero, List.set_cons_succ]
          refine wpZ_end rfl fun WB hWB => tail_none (by kernel_rfl) ?_
          refine NoPanic.normal ?_
          have hXB := hXA.trans hWB
          have HPX : Hid (decide (r.lo < ev) = false ↔ ((∀ p, pre.getLast? = some p → ltK p r) ∧ ev ≤ r.lo)) := Lib.hid (by
            rw [decide_eq_false_iff_not]
            exact ⟨fun h => ⟨HLB.out.1 rfl, by omega⟩, fun h => by omega⟩)
          clear hXA hWB
          obtain ⟨db, hdb⟩ : ∃ d, d = decide (r.lo < ev) := ⟨_, rfl⟩
          rw [← hdb] at HPX ⊢
          clear hdb
          go_wp2_with fail
          go_meet
          exact ⟨db, rfl, HPX.out, hXB⟩
      obtain ⟨d, rfl, hd, hx8⟩ := hcut
      obtain ⟨w8, rfl⟩ : ∃ W : World, W = wc := ⟨_, rfl⟩
      have hX8 := hXg.trans hx8
      have hB8 := hx8.heap hBg
      have hG8 := hx8.heap hG
      have hC8 := hx8.heap hCg
      clear hx8 hXg hBg hG hCg HPG r0 r1 r2 r3 r4 r5 t0 t1 t2
      cases d with
      | true =>
        go_wp2_with fail
        go_ret
        refine Tells.no (fun h => ?_) hX8
        exact HNO.out (fun ho => by have := hd.2 ⟨ho.2.2.1, HEV.out.2 ho.2.2.2⟩; cases this) h
      | false =>
      have HLT := Lib.hid (hd.1 rfl)
      have HSN : Hid (EndsA (C.setIfInBounds (c * 96 + v * 4 + q) (.int .i64 r.hi)) (t.ranges.take (j + 1))) := Lib.hid (by
        rw [HTK.out]
        exact HS.out.push (by omega) (by omega) (by omega) hc hv hq)
      clear hd hcell
      obtain ⟨r0, r1, r2, r3, r4, r5⟩ := blk6 hG8
      have hcell8 := blk_at hC8 (c * 96 + v * 4 + q) _ (HS.out.2 c v q (by omega) (by omega) (by omega))
      obtain ⟨e8, he8⟩ : ∃ e, e = (endOf pre ((c : Int), (v : Int), (q : Int))).getD 0 := ⟨_, rfl⟩
      rw [← he8] at hcell8
      clear he8
      go_upto_region 9 with fail
      refine wp_region_X #[true, true, true, true, true, true, true, true, true, true, true, false] 11 1 (by kernel_rfl) rfl ?_
      refine wpX_vt 0 (.pointer (some ⟨g5, 0, none⟩)) rfl rfl (by kernel_rfl) (by kernel_rfl) (by kernel_rfl) (fun _ _ _ _ h => h) (by kernel_rfl) rfl (by rfl) (fun W' hW => by
        skip
        go_simp) ?_
      simp only [List.setIfInBounds_toArray, List.set_cons_zero, List.set_cons_succ]
      refine wpX_vt 1 (.int .i64 (c : Int)) rfl rfl (by kernel_rfl) (by kernel_rfl) (by kernel_rfl) (fun _ _ _ _ h => h) (by kernel_rfl) rfl (by rfl) (fun W' hW => by
        have z := (((Ext.refl w8).drew).trans hW).cell r0
        go_simp) ?_
      simp only [List.setIfInBounds_toArray, List.set_cons_zero, List.set_cons_succ]
      refine wpX_vt 2 (.pointer (some ⟨g5, 1, none⟩)) rfl rfl (by kernel_rfl) (by kernel_rfl) (by kernel_rfl) (fun _ _ _ _ h => h) (by kernel_rfl) rfl (by rfl) (fun W' hW => by
        skip
        go_simp) ?_
      simp only [List.setIfInBounds_toArray, List.set_cons_zero, List.set_cons_succ]
      refine wpX_vt 3 (.int .i64 (v : Int)) rfl rfl (by kernel_rfl) (by kernel_rfl) (by kernel_rfl) (fun _ _ _ _ h => h) (by kernel_rfl) rfl (by rfl) (fun W' hW => by
        have z := (((Ext.refl w8).drew).trans hW).cell r1
        go_simp) ?_
      simp only [List.setIfInBounds_toArray, List.set_cons_zero, List.set_cons_succ]
      refine wpX_vt 4 (.pointer (some ⟨g5, 2, none⟩)) rfl rfl (by kernel_rfl) (by kernel_rfl) (by kernel_rfl) (fun _ _ _ _ h => h) (by kernel_rfl) rfl (by rfl) (fun W' hW => by
        skip
        go_simp) ?_
      simp only [List.setIfInBounds_toArray, List.set_cons_zero, List.set_cons_succ]
      refine wpX_vt 5 (.int .i64 (q : Int)) rfl rfl (by kernel_rfl) (by kernel_rfl) (by kernel_rfl) (fun _ _ _ _ h => h) (by kernel_rfl) rfl (by rfl) (fun W' hW => by
        have z := (((Ext.refl w8).drew).trans hW).cell r2
        go_simp) ?_
      simp only [List.setIfInBounds_toArray, List.set_cons_zero, List.set_cons_succ]
      refine wpX_vt 6 (.pointer (some ⟨g5, 4, none⟩)) rfl rfl (by kernel_rfl) (by kernel_rfl) (by kernel_rfl) (fun _ _ _ _ h => h) (by kernel_rfl) rfl (by rfl) (fun W' hW => by
        skip
        go_simp) ?_
      simp only [List.setIfInBounds_toArray, List.set_cons_zero, List.set_cons_succ]
      refine wpX_vt 7 (.int .i64 r.hi) rfl rfl (by kernel_rfl) (by kernel_rfl) (by kernel_rfl) (fun _ _ _ _ h => h) (by kernel_rfl) rfl (by rfl) (fun W' hW => by
        have z := (((Ext.refl w8).drew).trans hW).cell r4
        go_simp) ?_
      simp only [List.setIfInBounds_toArray, List.set_cons_zero, List.set_cons_succ]
      refine wpX_vt 8 (.pointer (some ⟨g3, c * 96, none⟩)) rfl rfl (by kernel_rfl) (by kernel_rfl) (by kernel_rfl) (fun _ _ _ _ h => h) (by kernel_rfl) rfl (by rfl) (fun W' hW => by
        skip
        go_simp) ?_
      simp only [List.setIfInBounds_toArray, List.set_cons_zero, List.set_cons_succ]
      refine wpX_vt 9 (.pointer (some ⟨g3, c * 96 + v * 4, none⟩)) rfl rfl (by kernel_rfl) (by kernel_rfl) (by kernel_rfl) (fun _ _ _ _ h => h) (by kernel_rfl) rfl (by rfl) (fun W' hW => by
        skip
        go_simp) ?_
      simp only [List.setIfInBounds_toArray, List.set_cons_zero, List.set_cons_succ]
      refine wpX_vt 10 (.pointer (some ⟨g3, c * 96 + v * 4 + q, none⟩)) rfl rfl (by kernel_rfl) (by kernel_rfl) (by kernel_rfl) (fun _ _ _ _ h => h) (by kernel_rfl) rfl (by rfl) (fun W' hW => by
        skip
        go_simp) ?_
      simp only [List.setIfInBounds_toArray, List.set_cons_zero, List.set_cons_succ]
      refine wpX_end rfl fun W7 hW7 => tail_seq 11 rfl (by kernel_rfl) ?_
      simp only [List.drop_succ_cons, List.drop_zero]
      have hX7 := ((Ext.refl w8).drew).trans hW7
      have hC7 := hX7.heap hC8
      have hB7 := hX7.heap hB8
      have hG7 := hX7.heap hG8
      have f1 := blk_free hC7 (c * 96 + v * 4 + q)
      have k1 := blk_at hC7 (c * 96 + v * 4 + q) _ (HS.out.2 c v q (by omega) (by omega) (by omega))
      have hlt7 := heap_lt hC7
      have hXw := hX8.trans hX7
      clear hX7 hW7 hcell8 hC8 hB8 hG8 hX8 r0 r1 r2 r3 r4 r5
      go_wp2_with fail
      refine NoPanic.normal ?_
      have s7 := gset W7 ⟨g3, c * 96 + v * 4 + q, none⟩ (.int .i64 r.hi)
      have hCn : (W7.setCell ⟨g3, c * 96 + v * 4 + q, none⟩ (.int .i64 r.hi)).heap[g3]? = some (.cells (C.setIfInBounds (c * 96 + v * 4 + q) (.int .i64 r.hi)) 160 (0, 0)) := blk_set hC7 _ _
      have hXn := hXw.grown s7 (fun k e => by cases e; exact hg3w)
      have hBn := blk_grown hB7 s7 (fun e => hg31 (by cases e; rfl))
      have hGn := blk_grown hG7 s7 (fun e => hg53 (by cases e; rfl))
      have hpn := HPW.out.ext hXn
      clear s7 hC7 hB7 hG7 f1 k1 hlt7 hXw
      generalize W7.setCell ⟨g3, c * 96 + v * 4 + q, none⟩ (.int .i64 r.hi) = wn at *
      generalize C.setIfInBounds (c * 96 + v * 4 + q) (.int .i64 r.hi) = Cn at *
      obtain ⟨r0, r1, r2, r3, r4, r5⟩ := blk6 hGn
      go_wp2_with fail
      clear r0 r1 r2 r3 r4 r5
      go_loopw [121] (fun i wr => ∃ m : Nat, m ≤ n5 ∧ i = .int .i64 (m : Int) ∧ Hid (∀ x ∈ r.places.take m, okPlc x) ∧ Ext wn wr) (fun i _ => n5 - (intOf i).toNat)
      case atStart => exact ⟨0, by omega, rfl, Lib.hid (by simp), Ext.refl _⟩
      case round =>
        obtain ⟨m, hm, rfl, HA, hXm⟩ := hrel
        obtain ⟨wq, rfl⟩ : ∃ W : World, W = wr := ⟨_, rfl⟩
        by_cases hlm : m < n5
        · have him : (m : Int) < (n5 : Int) := by omega
          have hlm' : m < r.places.length := by rw [← HN5.out]; exact hlm
          obtain ⟨b6, o6, hAe, hrp⟩ := (hpn.ext hXm).at_ (k := 3) (fun _ _ => rfl) (by omega) hlm'
          subst hAe
          have HTP := Lib.hid (List.take_succ_eq_append_getElem hlm')
          have HMM := Lib.hid (List.getElem_mem hlm')
          generalize r.places[m] = p at *
          have hld := plc_load hrp
          obtain ⟨hst, hG, hXG⟩ := box_new (P := Try.prog) wq 75 #[.int .i64 0, .int .i64 0, .int .i64 0] #[.int .i64 p.kind, .int .i64 p.n, .int .i64 p.add] pc_size rfl (by simp [Value.oneCell'])
          go_upto_region 13 with first | refine wpList_load_run rfl 75 (.tmp 123) rfl _ _ rfl hld ?_ | refine wpList_store_run rfl 75 (.tmp 7) (.tmp 124) rfl _ _ _ rfl rfl hst ?_
          obtain ⟨g7, hg7⟩ : ∃ g, g = wq.heap.size := ⟨_, rfl⟩
          rw [← hg7] at hG hXG ⊢
          generalize (wq.alloc (.cells #[.int .i64 0, .int .i64 0, .int .i64 0] 75)).setRow g7 #[.int .i64 p.kind, .int .i64 p.n, .int .i64 p.add] = wv at *
          dsimp only [Act.put]
          have hldp := run_loadAt_blk (P := Try.prog) wv g7 75 75 _ (0, 0) _ hG Try.underlying75 rfl pc_size
          have hXv := hXm.trans hXG
          clear hst hld hrp hXG hXm hg7 hG
          go_wp2_with first | refine wpList_load_run rfl 75 (.tmp 7) rfl _ _ rfl hldp ?_
          refine (refPlace_any p wv).mono ?_
          rintro en wu ⟨d, rfl, hd, hxu⟩
          have hXu := hXv.trans hxu
          clear hldp hXv hxu
          cases d with
          | false =>
            go_wp2_with fail
            go_ret
            refine Tells.no (fun h => ?_) (hXn.trans hXu)
            exact HNO.out (fun ho => by have := hd.2 (ho.2.1.2.2 p HMM.out); cases this) h
          | true =>
            have HA2 : Hid (∀ x ∈ r.places.take (m + 1), okPlc x) := Lib.hid (by
              rw [HTP.out]
              intro x hx
              rcases List.mem_append.1 hx with hx | hx
              · exact HA.out x hx
              · simp only [List.mem_singleton] at hx
                subst hx
                exact hd.1 rfl)
            clear hd HA
            go_wp2_with fail
            go_roundw
            case rel => exact ⟨m + 1, by omega, by first | (with_reducible rfl) | go_num, HA2, hXu⟩
            case measure => simp [intOf]; omega
        · have him : ¬ (m : Int) < (n5 : Int) := by omega
          have HPL : Hid (okPl r) := Lib.hid ⟨by rw [← HN5.out]; exact HN1.out, by rw [← HN5.out]; exact hn40, by have := HA.out; rwa [List.take_of_length_le (by rw [← HN5.out]; omega)] at this⟩
          have HNX := Lib.hid (HSU.out ⟨HNU.out, HPL.out, HLT.out.1, HEV.out.1 HLT.out.2⟩)
          have hCq := hXm.heap hCn
          have hBq := hXm.heap hBn
          have hXq := hXn.trans hXm
          clear hCn hBn hXn hXm hpn HA
          go_wp2_with fail
          go_roundw
          case rel => exact ⟨j + 1, Cn, by omega, by first | (with_reducible rfl) | go_num, HNX, HSN, hCq, hBq, hXq⟩
          case measure => simp [intOf]; omega
    · have hij : ¬ (j : Int) < (n2 : Int) := by omega
      have HF : Hid (okRngs t.lo t.hi t.ranges) := Lib.hid (fun i hi => HP.out i hi (by have := HN2.out; omega))
      clear HP HS
      go_wp2_with fail
      go_ret
      exact Tells.yes HF.out hX
end Go.Proofs.Ytokmbdeafjmcjaa
/- What may be encoded, as the specification says it: the walk of ref.Right. -/
namespace Go.Proofs.Ytokmbdeafjmcjaa
open Go.RowKit
set_option linter.unusedVariables false
set_option linter.unusedSimpArgs false

/-- the bounds of lists -/
def okBsP (was : Int) : List PTab → Prop
  | [] => True
  | t :: l => okP was t ∧ okBsP t.hi l
theorem okPs_iff : ∀ (l : List PTab) (e : Int), okPs e l ↔ okBsP e l ∧ ∀ t ∈ l, okRngs t.lo t.hi t.ranges
  | [], e => by simp [okPs, okBsP]
  | t :: l, e => by
    simp only [okPs, okBsP, okPs_iff l t.hi, List.mem_cons, forall_eq_or_imp]
    exact ⟨fun ⟨h1, h2, h4, h5⟩ => ⟨⟨h1, h4⟩, h2, h5⟩, fun ⟨⟨h1, h4⟩, h2, h5⟩ => ⟨h1, h2, h4, h5⟩⟩
theorem okBsP_mem : ∀ {l : List PTab} {e : Int}, 0 ≤ e → okBsP e l → ∀ t ∈ l, 0 ≤ t.lo ∧ t.lo ≤ t.hi ∧ t.hi ≤ 1048576
  | [], _, _, _, t, ht => by simp at ht
  | s :: l, e, he, h, t, ht => by
    have h1 := h.1
    unfold okP at h1
    rcases List.mem_cons.1 ht with rfl | ht
    · omega
    · exact okBsP_mem (e := s.hi) (by omega) h.2 t ht
/-- lists with few rows -/
def FewP (l : List PTab) : Prop := ∀ t ∈ l, t.ranges.length ≤ 25769803776
theorem FewP.items : ∀ {l : List PTab}, FewP l → rngsN l ≤ 25769803776 * l.length
  | [], _ => by simp [rngsN]
  | t :: l, h => by
    have h1 := h t (by simp)
    have h2 := FewP.items (l := l) (fun x hx => h x (by simp [hx]))
    unfold rngsN at *
    simp only [List.map_cons, List.sum_cons, List.length_cons]
    omega
theorem fewP_of {l : List PTab} (h1 : okBsP 0 l) (h2 : ∀ t ∈ l, okRngs t.lo t.hi t.ranges) : FewP l := fun t ht => by
  have h3 := okBsP_mem (by omega) h1 t ht
  exact okRngs_len (h2 t ht) h3.1 h3.2.2
theorem wrap64_in19 {x : Int} (h : -9223372036854775808 ≤ x ∧ x ≤ 9223372036854775807) : wrap64 x = x := by unfold wrap64; omega
set_option maxHeartbeats 40000000 in
set_option maxRecDepth 100000 in
theorem refRight19_any (l : List PTab) (v : Value) (w : World) (hv : PTabs w v l) (hI : ∀ t ∈ l, t.I) (hl : l.length ≤ 9223372036854775807) : Calls Try.prog 41 #[v] w (Tells (RightP l) w) := by
  obtain ⟨A, c, rfl⟩ := hv.form
  obtain ⟨nl, hnl⟩ : ∃ n, n = l.length := ⟨_, rfl⟩
  have HV := Lib.hid hv
  have HI := Lib.hid hI
  rw [← hnl] at HV hl ⊢
  have HNL := Lib.hid hnl
  clear hv hI hnl
  go_enter Try.func41, Try.ntmps41
  go_wp2_with fail
  go_loopw [3, 4, 11] (fun n e i wr => ∃ (j : Nat) (N : Int) (e' : Int), j ≤ nl ∧ i = .int .i64 (j : Int) ∧ n = .int .i64 N ∧ e = .int .i64 e' ∧ (0 ≤ e' ∧ e' ≤ 1048576) ∧ Hid (nl ≤ 8 → FewP (l.take j) → N = rngsN (l.take j)) ∧ Hid (okBsP 0 l ↔ okBsP e' (l.drop j)) ∧ Ext w wr) (fun _ _ i _ => nl - (intOf i).toNat)
  case atStart => exact ⟨0, 0, 0, by omega, rfl, rfl, rfl, by omega, Lib.hid (fun _ _ => by simp [rngsN]), Lib.hid (by rw [List.drop_zero]), Ext.refl _⟩
  case round =>
    obtain ⟨j, N, e, hj, rfl, rfl, rfl, he, HN, HR, hX⟩ := hrel
    obtain ⟨wo, rfl⟩ : ∃ wo : World, wo = wr := ⟨_, rfl⟩
    by_cases hlt : j < nl
    · have hij : (j : Int) < (nl : Int) := by omega
      have hlt' : j < l.length := by rw [← HNL.out]; exact hlt
      obtain ⟨bb, oo, y, rfl, hra, hrw1⟩ := (HV.out.ext hX).at_ hlt'
      have HD := Lib.hid (List.drop_eq_getElem_cons hlt')
      have HSU := Lib.hid (rngsN_succ hlt')
      have HTK := Lib.hid (List.take_succ_eq_append_getElem hlt')
      have HTI := Lib.hid (HI.out _ (List.getElem_mem hlt'))
      generalize l[j] = t at *
      have hlo := HTI.out.lo
      have hhi := HTI.out.hi
      obtain ⟨A2, c2, rfl⟩ := hrw1.form
      obtain ⟨n2, hn2⟩ : ∃ n, n = t.ranges.length := ⟨_, rfl⟩
      have hld := ptab_load hra
      rw [← hn2] at hld
      have HN2 := Lib.hid hn2
      clear hn2
      obtain ⟨hst, hG, hXG⟩ := box_new (P := Try.prog) wo 66 #[.int .i64 0, .int .i64 0, .slice none 0 0] #[.int .i64 t.lo, .int .i64 t.hi, .slice A2 n2 c2] pl_size rfl (by simp [Value.oneCell'])
      go_upto_region 5 with first | refine wpList_load_run rfl 66 (.tmp 13) rfl _ _ rfl hld ?_ | refine wpList_store_run rfl 66 (.tmp 6) (.tmp 14) rfl _ _ _ rfl rfl hst ?_
      obtain ⟨g6, hg⟩ : ∃ g, g = wo.heap.size := ⟨_, rfl⟩
      rw [← hg] at hG hXG ⊢
      generalize (wo.alloc (.cells #[.int .i64 0, .int .i64 0, .slice none 0 0] 66)).setRow g6 #[.int .i64 t.lo, .int .i64 t.hi, .slice A2 n2 c2] = wg at *
      dsimp only [Act.put]
      obtain ⟨r0, r1, r2⟩ := blkT hG
      have hXX := hX.trans hXG
      clear hst hld hra hXG hX hg hrw1
      go_wp2_with fail
      refine (bounds_any t.lo t.hi e wg).mono ?_
      rintro en w2 ⟨d, rfl, hd, hx2⟩
      have hX2 := hXX.trans hx2
      have hG2 := hx2.heap hG
      clear hXX hG r0 r1 r2 hx2
      obtain ⟨r0, r1, r2⟩ := blkT hG2
      cases d with
      | false =>
        go_wp2_with fail
        go_ret
        refine Tells.no (fun h => ?_) hX2
        have h2 := HR.out.1 ((okPs_iff l 0).1 h.2.1).1
        rw [HD.out] at h2
        have h3 := h2.1
        unfold okP at h3
        have := hd.2 ⟨by omega, by omega, by omega, by omega⟩
        cases this
      | true =>
        have hb := hd.1 rfl
        have HOKT : Hid (okP e t) := Lib.hid (by unfold okP; omega)
        have HR2 : Hid (okBsP 0 l ↔ okBsP t.hi (l.drop (j + 1))) := Lib.hid (by
          rw [HR.out, HD.out]
          exact ⟨fun h => h.2, fun h => ⟨HOKT.out, h⟩⟩)
        obtain ⟨nv, hnv⟩ : ∃ nv : Int, nv = wrap64 (N + (n2 : Int)) := ⟨_, rfl⟩
        have HNV : Hid (nl ≤ 8 → FewP (l.take (j + 1)) → nv = rngsN (l.take (j + 1))) := Lib.hid (fun h8 hf => by
          have hf1 : FewP (l.take j) := fun s hs => hf s (by rw [HTK.out]; simp [hs])
          have hft := hf t (by rw [HTK.out]; simp)
          have h1 := HN.out h8 hf1
          have h2 := hf1.items
          rw [List.length_take] at h2
          have h3 : rngsN (l.take j) ≤ 206158430208 := by omega
          rw [hnv, HSU.out, h1, HN2.out]
          rw [wrap64_in19 (x := ((rngsN (l.take j) : Nat) : Int) + (t.ranges.length : Int)) (by omega)]
          omega)
        clear hd HR HN
        go_upto_region 7 with fail
        go_quiet (fail)
        go_upto_region 8 with fail
        obtain ⟨wp, hwp⟩ : ∃ W : World, W = w2.drewN nq := ⟨_, rfl⟩
        have hEp : Ext w2 wp := by rw [hwp]; exact (Ext.refl _).drewN _
        rw [← hwp]
        clear hwp
        have hXp := hX2.trans hEp
        clear r0 r1 r2 hX2 hG2 hEp
        rw [← hnv]
        clear hnv
        have hwj : IntKind.i64.wrap ((j : Int) + 1) = ((j + 1 : Nat) : Int) := by rw [IntKind.wrap_i64]; omega
        go_wp2_with fail
        go_roundw
        case rel => exact ⟨j + 1, nv, t.hi, by omega, by first | (with_reducible rfl) | go_num, rfl, rfl, by omega, HNV, HR2, hXp⟩
        case measure => simp [intOf]; omega
    · have hij : ¬ (j : Int) < (nl : Int) := by omega
      have HT : Hid (okBsP 0 l) := Lib.hid (by rw [HR.out, List.drop_of_length_le (by rw [← HNL.out]; omega)]; trivial)
      have HNN : Hid (nl ≤ 8 → FewP l → N = rngsN l) := Lib.hid (by have := HN.out; rwa [List.take_of_length_le (by rw [← HNL.out]; omega)] at this)
      clear HN HR
      by_cases h8 : 8 < nl
      case pos =>
        have d8 : decide ((8 : Int) < (nl : Int)) = true := by simp; omega
        go_wp2_with fail
        go_ret
        exact Tells.no (fun h => by have := h.1; rw [← HNL.out] at this; omega) hX
      have d8 : decide ((8 : Int) < (nl : Int)) = false := by simp; omega
      by_cases h80 : 8000 < N
      case pos =>
        have d80 : decide (8000 < N) = true := by simp; omega
        go_wp2_with fail
        go_ret
        refine Tells.no (fun h => ?_) hX
        have h1 := (okPs_iff l 0).1 h.2.1
        have h2 := HNN.out (by omega) (fewP_of h1.1 h1.2)
        have h3 := h.2.2
        omega
      have d80 : decide (8000 < N) = false := by simp; omega
      go_wp2_with fail
      go_loopw [39] (fun i wr => ∃ (k : Nat), k ≤ nl ∧ i = .int .i64 (k : Int) ∧ Hid (∀ t ∈ l.take k, okRngs t.lo t.hi t.ranges) ∧ Ext w wr) (fun i _ => nl - (intOf i).toNat)
      case atStart => exact ⟨0, by omega, rfl, Lib.hid (by simp), hX⟩
      case round =>
        clear hX
        obtain ⟨k, hk, rfl, HA, hX⟩ := hrel
        obtain ⟨wz, rfl⟩ : ∃ wo : World, wo = wr := ⟨_, rfl⟩
        by_cases hlt : k < nl
        · have hik : (k : Int) < (nl : Int) := by omega
          have hlt' : k < l.length := by rw [← HNL.out]; exact hlt
          obtain ⟨bb, oo, y, rfl, hra, hrw1⟩ := (HV.out.ext hX).at_ hlt'
          have HTK := Lib.hid (List.take_succ_eq_append_getElem hlt')
          have HMM := Lib.hid (List.getElem_mem hlt')
          have HTI := Lib.hid (HI.out _ (List.getElem_mem hlt'))
          have hbb := okBsP_mem (by omega) HT.out _ (List.getElem_mem hlt')
          generalize l[k] = t at *
          obtain ⟨A2, c2, rfl⟩ := hrw1.form
          obtain ⟨n2, hn2⟩ : ∃ n, n = t.ranges.length := ⟨_, rfl⟩
          have hld := ptab_load hra
          rw [← hn2] at hld hrw1
          clear hn2
          obtain ⟨hst, hG, hXG⟩ := box_new (P := Try.prog) wz 66 #[.int .i64 0, .int .i64 0, .slice none 0 0] #[.int .i64 t.lo, .int .i64 t.hi, .slice A2 n2 c2] pl_size rfl (by simp [Value.oneCell'])
          go_upto_region 14 with first | refine wpList_load_run rfl 66 (.tmp 41) rfl _ _ rfl hld ?_ | refine wpList_store_run rfl 66 (.tmp 8) (.tmp 42) rfl _ _ _ rfl rfl hst ?_
          obtain ⟨g8, hg⟩ : ∃ g, g = wz.heap.size := ⟨_, rfl⟩
          rw [← hg] at hG hXG ⊢
          generalize (wz.alloc (.cells #[.int .i64 0, .int .i64 0, .slice none 0 0] 66)).setRow g8 #[.int .i64 t.lo, .int .i64 t.hi, .slice A2 n2 c2] = wg at *
          dsimp only [Act.put]
          have hXX := hX.trans hXG
          have hldt := run_loadAt_blk (P := Try.prog) wg g8 66 66 _ (0, 0) _ hG Try.underlying66 rfl pl_size
          have hs1 := hrw1.ext hXG
          clear hst hld hra hXG hX hg hrw1 hG
          go_wp2_with first | refine wpList_load_run rfl 66 (.tmp 8) rfl _ _ rfl hldt ?_
          refine (refRanges_any t _ wg hs1 HTI.out (by omega)).mono ?_
          rintro en w2 ⟨d, rfl, hd, hx2⟩
          have hX2 := hXX.trans hx2
          clear hldt hXX hs1 hx2
          cases d with
          | false =>
            go_wp2_with fail
            go_ret
            refine Tells.no (fun h => ?_) hX2
            have := hd.2 (((okPs_iff l 0).1 h.2.1).2 t HMM.out)
            cases this
          | true =>
            have HA2 : Hid (∀ s ∈ l.take (k + 1), okRngs s.lo s.hi s.ranges) := Lib.hid (by
              rw [HTK.out]
              intro s hs
              rcases List.mem_append.1 hs with hs | hs
              · exact HA.out s hs
              · simp only [List.mem_singleton] at hs
                subst hs
                exact hd.1 rfl)
            clear hd
            go_wp2_with fail
            go_roundw
            case rel => exact ⟨k + 1, by omega, by first | (with_reducible rfl) | go_num, HA2, hX2⟩
            case measure => simp [intOf]; omega
        · have hik : ¬ (k : Int) < (nl : Int) := by omega
          have HF : Hid (RightP l) := Lib.hid (by
            have hA : ∀ t ∈ l, okRngs t.lo t.hi t.ranges := by have := HA.out; rwa [List.take_of_length_le (by rw [← HNL.out]; omega)] at this
            have h2 := HNN.out (by omega) (fewP_of HT.out hA)
            exact ⟨by rw [← HNL.out]; omega, (okPs_iff l 0).2 ⟨HT.out, hA⟩, by omega⟩)
          go_wp2_with fail
          go_ret
          exact Tells.yes HF.out hX
end Go.Proofs.Ytokmbdeafjmcjaa
