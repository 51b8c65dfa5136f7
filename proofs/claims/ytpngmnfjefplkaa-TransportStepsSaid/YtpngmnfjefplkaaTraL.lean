/- right of the statements about the transport: an endpoint that Poll and Receive are promised for. -/
import Derived.Test.YtpngmnfjefplkaaTraK
namespace Go.Proofs.Ytpngmnfjefplkaa
open Go.RowKit
set_option linter.unusedVariables false

def rightE (e : EP) : EP := ⟨1 + e.epoch % 6, e.peer % 6, e.acked % 50, e.acked % 50 + e.sent % (((min e.queue.length 4 : Nat) : Int) + 1), e.got % 50, e.timer % 40, e.queue, e.owe⟩
theorem rightE_tame (e : EP) (hq : e.queue.length ≤ 1000) (hb : ∀ b ∈ e.queue, b.length ≤ 1000000) : (rightE e).Tame := by
  have h1 : 0 ≤ e.sent % (((min e.queue.length 4 : Nat) : Int) + 1) := Int.emod_nonneg _ (by omega)
  have h2 : e.sent % (((min e.queue.length 4 : Nat) : Int) + 1) < ((min e.queue.length 4 : Nat) : Int) + 1 := Int.emod_lt_of_pos _ (by omega)
  refine ⟨?_, ?_, ?_, ?_, ?_, ?_, hq, hb⟩
  · simp only [rightE, tame]; omega
  · simp only [rightE, tame]; omega
  · simp only [rightE, tame]; omega
  · simp only [rightE, tame]
    generalize e.sent % (((min e.queue.length 4 : Nat) : Int) + 1) = m at *
    omega
  · simp only [rightE, tame]; omega
  · simp only [rightE, tame]; omega
theorem rightE_cons (e : EP) : (rightE e).Cons := by
  have h1 : 0 ≤ e.sent % (((min e.queue.length 4 : Nat) : Int) + 1) := Int.emod_nonneg _ (by omega)
  have h2 : e.sent % (((min e.queue.length 4 : Nat) : Int) + 1) < ((min e.queue.length 4 : Nat) : Int) + 1 := Int.emod_lt_of_pos _ (by omega)
  refine ⟨?_, ?_, ?_⟩
  · simp only [rightE]; omega
  · simp only [rightE]
    generalize e.sent % (((min e.queue.length 4 : Nat) : Int) + 1) = m at *
    omega
  · simp only [rightE]
    generalize e.sent % (((min e.queue.length 4 : Nat) : Int) + 1) = m at *
    omega
/-- the box of the endpoint and that of the result -/
structure ES (w : World) (yq : Value) (e : EP) (W : World) : Prop where
  ep : W.heap[w.heap.size]? = some (.cells #[.int .i64 e.epoch, .int .i64 e.peer, .int .i64 e.acked, .int .i64 e.sent, .int .i64 e.got, .int .i64 e.timer, yq, .bool e.owe] 45 (0, 0))
  res : W.heap[w.heap.size + 1]? = some (.cells #[.int .i64 0, .int .i64 0, .int .i64 0, .int .i64 0, .int .i64 0, .int .i64 0, .slice none 0 0, .bool false] 45 (0, 0))
  ext : Ext w W
theorem ES.put {w : World} {yq : Value} {e : EP} {W : World} (H : ES w yq e W) (j : Nat) (u : Value) (e' : EP)
    (he : ((#[.int .i64 e.epoch, .int .i64 e.peer, .int .i64 e.acked, .int .i64 e.sent, .int .i64 e.got, .int .i64 e.timer, yq, .bool e.owe] : Array Value).setIfInBounds j u) = #[.int .i64 e'.epoch, .int .i64 e'.peer, .int .i64 e'.acked, .int .i64 e'.sent, .int .i64 e'.got, .int .i64 e'.timer, yq, .bool e'.owe]) :
    ES w yq e' (W.setCell ⟨w.heap.size, j, none⟩ u) :=
  ⟨by rw [blk_set H.ep j u, he], blk_far H.res (by show w.heap.size + 1 ≠ w.heap.size; omega) u, H.ext.setCell (by show w.heap.size ≤ w.heap.size; omega) u⟩
theorem ES.drew {w : World} {yq : Value} {e : EP} {W : World} (H : ES w yq e W) : ES w yq e W.drew := ⟨H.ep, H.res, H.ext.drew⟩
theorem blk8f {w : World} {g : Nat} {a0 a1 a2 a3 a4 a5 a6 a7 : Value} {t : TypeId} (H : w.heap[g]? = some (.cells #[a0, a1, a2, a3, a4, a5, a6, a7] t (0, 0))) :
    w.frozen? ⟨g, 0, none⟩ = false ∧ w.frozen? ⟨g, 1, none⟩ = false ∧ w.frozen? ⟨g, 2, none⟩ = false ∧ w.frozen? ⟨g, 3, none⟩ = false ∧ w.frozen? ⟨g, 4, none⟩ = false ∧ w.frozen? ⟨g, 5, none⟩ = false :=
  ⟨blk_free H 0, blk_free H 1, blk_free H 2, blk_free H 3, blk_free H 4, blk_free H 5⟩
set_option maxHeartbeats 1000000 in
set_option maxRecDepth 100000 in
theorem right_any (y : Value) (e : EP) (w : World) (hq : QIn w y e.queue) (hl : e.queue.length ≤ 1000) :
    Calls Try.prog 23 #[.agg #[.int .i64 e.epoch, .int .i64 e.peer, .int .i64 e.acked, .int .i64 e.sent, .int .i64 e.got, .int .i64 e.timer, y, .bool e.owe]] w fun en w' => en = .returned (.agg #[.int .i64 (rightE e).epoch, .int .i64 (rightE e).peer, .int .i64 (rightE e).acked, .int .i64 (rightE e).sent, .int .i64 (rightE e).got, .int .i64 (rightE e).timer, y, .bool (rightE e).owe]) ∧ Ext w w' := by
  obtain ⟨A, c, rfl, hcap⟩ := hq.form
  have HQ := Lib.hid hq
  clear hq
  go_enter Try.func23, Try.ntmps23
  go_upto_region 1 with fail
  obtain ⟨W, hW, hE, hB, hZ⟩ : ∃ W, W = (w.alloc (.cells #[.int .i64 e.epoch, .int .i64 e.peer, .int .i64 e.acked, .int .i64 e.sent, .int .i64 e.got, .int .i64 e.timer, .slice A e.queue.length c, .bool e.owe] 45)).alloc (.cells #[.int .i64 0, .int .i64 0, .int .i64 0, .int .i64 0, .int .i64 0, .int .i64 0, .slice none 0 0, .bool false] 45) ∧ Ext w W ∧ W.heap[w.heap.size]? = some (.cells #[.int .i64 e.epoch, .int .i64 e.peer, .int .i64 e.acked, .int .i64 e.sent, .int .i64 e.got, .int .i64 e.timer, .slice A e.queue.length c, .bool e.owe] 45 (0, 0)) ∧ W.heap[w.heap.size + 1]? = some (.cells #[.int .i64 0, .int .i64 0, .int .i64 0, .int .i64 0, .int .i64 0, .int .i64 0, .slice none 0 0, .bool false] 45 (0, 0)) := ⟨_, rfl, ((Ext.refl w).alloc _).alloc _, ((Ext.refl _).alloc _).heap (heap_alloc_new w _), by have := heap_alloc_new (w.alloc (.cells #[.int .i64 e.epoch, .int .i64 e.peer, .int .i64 e.acked, .int .i64 e.sent, .int .i64 e.got, .int .i64 e.timer, .slice A e.queue.length c, .bool e.owe] 45)) (.cells #[.int .i64 0, .int .i64 0, .int .i64 0, .int .i64 0, .int .i64 0, .int .i64 0, .slice none 0 0, .bool false] 45); simpa using this⟩
  rw [← hW]
  clear hW
  have hN : ES w (.slice A e.queue.length c) e W := ⟨hB, hZ, hE⟩
  clear hB hZ hE
  obtain ⟨q0, q1, q2, q3, q4, q5, q6, q7⟩ := blk8 hN.ep
  obtain ⟨f0, f1, f2, f3, f4, f5⟩ := blk8f hN.ep
  have hlt := heap_lt hN.ep
  have hws : IntKind.i64.wrap (1 + e.epoch % 6) = 1 + e.epoch % 6 := by rw [IntKind.wrap_i64]; omega
  refine wp_region_still_tail 8 (by kernel_rfl) (by kernel_rfl) ?_
  simp only [List.take_succ_cons, List.take_zero, List.drop_succ_cons, List.drop_zero]
  still_step
  still_step
  still_call (Mod_still e.epoch 6 _ (by omega) (by omega))
  still_step
  still_step
  still_step
  still_call (Mod_still e.peer 6 _ (by omega) (by omega))
  still_step
  refine wpStill_nil ?_
  change wpList _ _ _ _ _ W.drew
  replace hN := hN.drew
  clear hws
  clear q0 q1 q2 q3 q4 q5 q6 q7 f0 f1 f2 f3 f4 f5 hlt
  generalize W.drew = W1 at *
  obtain ⟨q0, q1, q2, q3, q4, q5, q6, q7⟩ := blk8 hN.ep
  obtain ⟨f0, f1, f2, f3, f4, f5⟩ := blk8f hN.ep
  have hlt := heap_lt hN.ep
  obtain ⟨m0, hm0⟩ : ∃ m0, m0 = 1 + e.epoch % 6 := ⟨_, rfl⟩
  obtain ⟨m1, hm1⟩ : ∃ m1, m1 = e.peer % 6 := ⟨_, rfl⟩
  rw [← hm0, ← hm1]
  have HM0 := Lib.hid hm0
  have HM1 := Lib.hid hm1
  clear hm0 hm1
  go_upto_region 2 with fail
  replace hN := (hN.put 0 (.int .i64 m0) ⟨m0, e.peer, e.acked, e.sent, e.got, e.timer, e.queue, e.owe⟩ rfl).put 1 (.int .i64 m1) ⟨m0, m1, e.acked, e.sent, e.got, e.timer, e.queue, e.owe⟩ rfl
  clear q0 q1 q2 q3 q4 q5 q6 q7 f0 f1 f2 f3 f4 f5 hlt
  generalize (W1.setCell ⟨w.heap.size, 0, none⟩ (.int .i64 m0)).setCell ⟨w.heap.size, 1, none⟩ (.int .i64 m1) = W2 at *
  obtain ⟨q0, q1, q2, q3, q4, q5, q6, q7⟩ := blk8 hN.ep
  obtain ⟨f0, f1, f2, f3, f4, f5⟩ := blk8f hN.ep
  have hlt := heap_lt hN.ep
  go_wp2_with fail
  refine (Mod_any e.acked 50 W2 (by omega) (by omega)).mono ?_
  rintro en w2' ⟨rfl, rfl⟩
  obtain ⟨m2, hm2⟩ : ∃ m2, m2 = e.acked % 50 := ⟨_, rfl⟩
  rw [← hm2]
  have hm2r : 0 ≤ m2 ∧ m2 < 50 := by omega
  have HM2 := Lib.hid hm2
  clear hm2
  go_upto_region 3 with fail
  replace hN := hN.put 2 (.int .i64 m2) ⟨m0, m1, m2, e.sent, e.got, e.timer, e.queue, e.owe⟩ rfl
  clear q0 q1 q2 q3 q4 q5 q6 q7 f0 f1 f2 f3 f4 f5 hlt
  generalize W2.setCell ⟨w.heap.size, 2, none⟩ (.int .i64 m2) = W3 at *
  obtain ⟨q0, q1, q2, q3, q4, q5, q6, q7⟩ := blk8 hN.ep
  obtain ⟨f0, f1, f2, f3, f4, f5⟩ := blk8f hN.ep
  have hlt := heap_lt hN.ep
  by_cases h4 : 4 < e.queue.length
  · have h4' : (4 : Int) < (e.queue.length : Int) := by omega
    have HK : Hid ((((min e.queue.length 4 : Nat) : Int) + 1) = 5) := Lib.hid (by omega)
    have hk1 : (0 : Int) < 5 ∧ (5 : Int) ≤ 1000000 := by omega
    obtain ⟨m3, hm3⟩ : ∃ m3, m3 = e.sent % 5 := ⟨_, rfl⟩
    have hm3r : 0 ≤ m3 ∧ m3 < 1000000 := by
      have h1 := Int.emod_nonneg e.sent (b := 5) (by omega)
      have h2 := Int.emod_lt_of_pos e.sent (b := 5) (by omega)
      omega
    have hws2 : IntKind.i64.wrap (m2 + m3) = m2 + m3 := by rw [IntKind.wrap_i64]; omega
    refine wp_region_still_tail 12 (by kernel_rfl) (by kernel_rfl) ?_
    simp only [List.take_succ_cons, List.take_zero, List.drop_succ_cons, List.drop_zero]
    still_step
    still_step
    still_step
    still_step
    still_step
    still_step
    still_step
    still_step
    still_step
    still_call (Mod_still e.sent 5 _ (by omega) (by omega))
    rw [← hm3]
    have HM3 := Lib.hid hm3
    clear hm3
    still_step
    still_step
    refine wpStill_nil ?_
    change wpList _ _ _ _ _ W3.drew
    replace hN := hN.drew
    clear q0 q1 q2 q3 q4 q5 q6 q7 f0 f1 f2 f3 f4 f5 hlt
    generalize W3.drew = W4 at *
    obtain ⟨q0, q1, q2, q3, q4, q5, q6, q7⟩ := blk8 hN.ep
    obtain ⟨f0, f1, f2, f3, f4, f5⟩ := blk8f hN.ep
    have hlt := heap_lt hN.ep
    go_upto_region 4 with fail
    replace hN := hN.put 3 (.int .i64 (m2 + m3)) ⟨m0, m1, m2, m2 + m3, e.got, e.timer, e.queue, e.owe⟩ rfl
    clear q0 q1 q2 q3 q4 q5 q6 q7 f0 f1 f2 f3 f4 f5 hlt
    generalize W4.setCell ⟨w.heap.size, 3, none⟩ (.int .i64 (m2 + m3)) = W5 at *
    obtain ⟨q0, q1, q2, q3, q4, q5, q6, q7⟩ := blk8 hN.ep
    obtain ⟨f0, f1, f2, f3, f4, f5⟩ := blk8f hN.ep
    have hlt := heap_lt hN.ep
    refine wp_region_still_tail 7 (by kernel_rfl) (by kernel_rfl) ?_
    simp only [List.take_succ_cons, List.take_zero, List.drop_succ_cons, List.drop_zero]
    still_step
    still_step
    still_call (Mod_still e.got 50 _ (by omega) (by omega))
    still_step
    still_step
    still_call (Mod_still e.timer 40 _ (by omega) (by omega))
    still_step
    refine wpStill_nil ?_
    change wpList _ _ _ _ _ W5.drew
    replace hN := hN.drew
    clear q0 q1 q2 q3 q4 q5 q6 q7 f0 f1 f2 f3 f4 f5 hlt
    generalize W5.drew = W6 at *
    obtain ⟨q0, q1, q2, q3, q4, q5, q6, q7⟩ := blk8 hN.ep
    obtain ⟨f0, f1, f2, f3, f4, f5⟩ := blk8f hN.ep
    have hlt := heap_lt hN.ep
    obtain ⟨m4, hm4⟩ : ∃ m4, m4 = e.got % 50 := ⟨_, rfl⟩
    obtain ⟨m5, hm5⟩ : ∃ m5, m5 = e.timer % 40 := ⟨_, rfl⟩
    rw [← hm4, ← hm5]
    have HM4 := Lib.hid hm4
    have HM5 := Lib.hid hm5
    clear hm4 hm5
    go_upto_region 5 with fail
    replace hN := (hN.put 4 (.int .i64 m4) ⟨m0, m1, m2, m2 + m3, m4, e.timer, e.queue, e.owe⟩ rfl).put 5 (.int .i64 m5) ⟨m0, m1, m2, m2 + m3, m4, m5, e.queue, e.owe⟩ rfl
    clear q0 q1 q2 q3 q4 q5 q6 q7 f0 f1 f2 f3 f4 f5 hlt
    generalize (W6.setCell ⟨w.heap.size, 4, none⟩ (.int .i64 m4)).setCell ⟨w.heap.size, 5, none⟩ (.int .i64 m5) = W7 at *
    have hst := run_storeAt_blk (P := Try.prog) W7 (w.heap.size + 1) 45 45 _ #[.int .i64 m0, .int .i64 m1, .int .i64 m2, .int .i64 (m2 + m3), .int .i64 m4, .int .i64 m5, .slice A e.queue.length c, .bool e.owe] hN.res ep_size rfl (by simp [Value.oneCell'])
    have hld := run_loadAt_blk (P := Try.prog) W7 w.heap.size 45 45 _ (0, 0) _ hN.ep Try.underlying45 rfl ep_size
    go_wp2_with first | refine wpList_load_run rfl 45 (.tmp 1) rfl _ _ rfl hld ?_ | refine wpList_store_run rfl 45 (.tmp 2) (.tmp 36) rfl _ _ _ rfl rfl hst ?_
    have hZ9 := setRow_heap W7 (w.heap.size + 1) _ #[.int .i64 m0, .int .i64 m1, .int .i64 m2, .int .i64 (m2 + m3), .int .i64 m4, .int .i64 m5, .slice A e.queue.length c, .bool e.owe] _ _ hN.res
    have hE9 := hN.ext.grown (gsetRow W7 (w.heap.size + 1) #[.int .i64 m0, .int .i64 m1, .int .i64 m2, .int .i64 (m2 + m3), .int .i64 m4, .int .i64 m5, .slice A e.queue.length c, .bool e.owe]) (fun k e => by cases e; omega)
    have hq9 := HQ.out.ext hE9
    clear hst hld hN
    generalize W7.setRow (w.heap.size + 1) #[.int .i64 m0, .int .i64 m1, .int .i64 m2, .int .i64 (m2 + m3), .int .i64 m4, .int .i64 m5, .slice A e.queue.length c, .bool e.owe] = w9 at *
    obtain ⟨k0, k1', k2, k3, k4, k5, k6, k7⟩ := blk8 hZ9
    refine bodyPost_ret (v := .agg #[.int .i64 m0, .int .i64 m1, .int .i64 m2, .int .i64 (m2 + m3), .int .i64 m4, .int .i64 m5, .slice A e.queue.length c, .bool e.owe]) (by simp [results, Try.results23, go_sem, k0, k1', k2, k3, k4, k5, k6, k7]) rfl ?_
    refine ⟨?_, hE9⟩
    rw [rightE, HK.out, ← HM0.out, ← HM1.out, ← HM2.out, ← HM3.out, ← HM4.out, ← HM5.out]
  · have h4' : ¬ (4 : Int) < (e.queue.length : Int) := by omega
    have HK : Hid ((((min e.queue.length 4 : Nat) : Int) + 1) = (e.queue.length : Int) + 1) := Lib.hid (by omega)
    have hwk : IntKind.i64.wrap ((e.queue.length : Int) + 1) = (e.queue.length : Int) + 1 := by rw [IntKind.wrap_i64]; omega
    have hk1 : (0 : Int) < (e.queue.length : Int) + 1 ∧ (e.queue.length : Int) + 1 ≤ 1000000 := by omega
    obtain ⟨m3, hm3⟩ : ∃ m3, m3 = e.sent % ((e.queue.length : Int) + 1) := ⟨_, rfl⟩
    have hm3r : 0 ≤ m3 ∧ m3 < 1000000 := by
      have h1 := Int.emod_nonneg e.sent (b := ((e.queue.length : Int) + 1)) (by omega)
      have h2 := Int.emod_lt_of_pos e.sent (b := ((e.queue.length : Int) + 1)) (by omega)
      omega
    have hws2 : IntKind.i64.wrap (m2 + m3) = m2 + m3 := by rw [IntKind.wrap_i64]; omega
    refine wp_region_still_tail 12 (by kernel_rfl) (by kernel_rfl) ?_
    simp only [List.take_succ_cons, List.take_zero, List.drop_succ_cons, List.drop_zero]
    still_step
    still_step
    still_step
    still_step
    still_step
    still_step
    still_step
    still_step
    still_step
    still_call (Mod_still e.sent ((e.queue.length : Int) + 1) _ (by omega) (by omega))
    rw [← hm3]
    have HM3 := Lib.hid hm3
    clear hm3
    still_step
    still_step
    refine wpStill_nil ?_
    change wpList _ _ _ _ _ W3.drew
    replace hN := hN.drew
    clear q0 q1 q2 q3 q4 q5 q6 q7 f0 f1 f2 f3 f4 f5 hlt
    generalize W3.drew = W4 at *
    obtain ⟨q0, q1, q2, q3, q4, q5, q6, q7⟩ := blk8 hN.ep
    obtain ⟨f0, f1, f2, f3, f4, f5⟩ := blk8f hN.ep
    have hlt := heap_lt hN.ep
    go_upto_region 4 with fail
    replace hN := hN.put 3 (.int .i64 (m2 + m3)) ⟨m0, m1, m2, m2 + m3, e.got, e.timer, e.queue, e.owe⟩ rfl
    clear q0 q1 q2 q3 q4 q5 q6 q7 f0 f1 f2 f3 f4 f5 hlt
    generalize W4.setCell ⟨w.heap.size, 3, none⟩ (.int .i64 (m2 + m3)) = W5 at *
    obtain ⟨q0, q1, q2, q3, q4, q5, q6, q7⟩ := blk8 hN.ep
    obtain ⟨f0, f1, f2, f3, f4, f5⟩ := blk8f hN.ep
    have hlt := heap_lt hN.ep
    refine wp_region_still_tail 7 (by kernel_rfl) (by kernel_rfl) ?_
    simp only [List.take_succ_cons, List.take_zero, List.drop_succ_cons, List.drop_zero]
    still_step
    still_step
    still_call (Mod_still e.got 50 _ (by omega) (by omega))
    still_step
    still_step
    still_call (Mod_still e.timer 40 _ (by omega) (by omega))
    still_step
    refine wpStill_nil ?_
    change wpList _ _ _ _ _ W5.drew
    replace hN := hN.drew
    clear q0 q1 q2 q3 q4 q5 q6 q7 f0 f1 f2 f3 f4 f5 hlt
    generalize W5.drew = W6 at *
    obtain ⟨q0, q1, q2, q3, q4, q5, q6, q7⟩ := blk8 hN.ep
    obtain ⟨f0, f1, f2, f3, f4, f5⟩ := blk8f hN.ep
    have hlt := heap_lt hN.ep
    obtain ⟨m4, hm4⟩ : ∃ m4, m4 = e.got % 50 := ⟨_, rfl⟩
    obtain ⟨m5, hm5⟩ : ∃ m5, m5 = e.timer % 40 := ⟨_, rfl⟩
    rw [← hm4, ← hm5]
    have HM4 := Lib.hid hm4
    have HM5 := Lib.hid hm5
    clear hm4 hm5
    go_upto_region 5 with fail
    replace hN := (hN.put 4 (.int .i64 m4) ⟨m0, m1, m2, m2 + m3, m4, e.timer, e.queue, e.owe⟩ rfl).put 5 (.int .i64 m5) ⟨m0, m1, m2, m2 + m3, m4, m5, e.queue, e.owe⟩ rfl
    clear q0 q1 q2 q3 q4 q5 q6 q7 f0 f1 f2 f3 f4 f5 hlt
    generalize (W6.setCell ⟨w.heap.size, 4, none⟩ (.int .i64 m4)).setCell ⟨w.heap.size, 5, none⟩ (.int .i64 m5) = W7 at *
    have hst := run_storeAt_blk (P := Try.prog) W7 (w.heap.size + 1) 45 45 _ #[.int .i64 m0, .int .i64 m1, .int .i64 m2, .int .i64 (m2 + m3), .int .i64 m4, .int .i64 m5, .slice A e.queue.length c, .bool e.owe] hN.res ep_size rfl (by simp [Value.oneCell'])
    have hld := run_loadAt_blk (P := Try.prog) W7 w.heap.size 45 45 _ (0, 0) _ hN.ep Try.underlying45 rfl ep_size
    go_wp2_with first | refine wpList_load_run rfl 45 (.tmp 1) rfl _ _ rfl hld ?_ | refine wpList_store_run rfl 45 (.tmp 2) (.tmp 36) rfl _ _ _ rfl rfl hst ?_
    have hZ9 := setRow_heap W7 (w.heap.size + 1) _ #[.int .i64 m0, .int .i64 m1, .int .i64 m2, .int .i64 (m2 + m3), .int .i64 m4, .int .i64 m5, .slice A e.queue.length c, .bool e.owe] _ _ hN.res
    have hE9 := hN.ext.grown (gsetRow W7 (w.heap.size + 1) #[.int .i64 m0, .int .i64 m1, .int .i64 m2, .int .i64 (m2 + m3), .int .i64 m4, .int .i64 m5, .slice A e.queue.length c, .bool e.owe]) (fun k e => by cases e; omega)
    have hq9 := HQ.out.ext hE9
    clear hst hld hN
    generalize W7.setRow (w.heap.size + 1) #[.int .i64 m0, .int .i64 m1, .int .i64 m2, .int .i64 (m2 + m3), .int .i64 m4, .int .i64 m5, .slice A e.queue.length c, .bool e.owe] = w9 at *
    obtain ⟨k0, k1', k2, k3, k4, k5, k6, k7⟩ := blk8 hZ9
    refine bodyPost_ret (v := .agg #[.int .i64 m0, .int .i64 m1, .int .i64 m2, .int .i64 (m2 + m3), .int .i64 m4, .int .i64 m5, .slice A e.queue.length c, .bool e.owe]) (by simp [results, Try.results23, go_sem, k0, k1', k2, k3, k4, k5, k6, k7]) rfl ?_
    refine ⟨?_, hE9⟩
    rw [rightE, HK.out, ← HM0.out, ← HM1.out, ← HM2.out, ← HM3.out, ← HM4.out, ← HM5.out]
end Go.Proofs.Ytpngmnfjefplkaa
