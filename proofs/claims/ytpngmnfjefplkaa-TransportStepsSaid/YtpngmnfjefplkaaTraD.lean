/- Equal endpoints and equal rows of bodies are told to be the same. -/
import Derived.Test.YtpngmnfjefplkaaTraC
namespace Go.Proofs.Ytpngmnfjefplkaa
open Go.RowKit
set_option linter.unusedVariables false

set_option maxHeartbeats 1000000 in
set_option maxRecDepth 100000 in
theorem Same_self (u v : Value) (e : EP) (w : World) (hu : EPAt w u e) (hv : EPAt w v e) (hm : e.queue.length ≤ 1000000000) :
    Calls Try.prog 50 #[u, v] w fun en w' => en = .returned (.bool true) ∧ Ext w w' := by
  obtain ⟨y, rfl, hq⟩ := hu
  obtain ⟨A, c, rfl, _⟩ := hq.form
  obtain ⟨z, rfl, hr⟩ := hv
  obtain ⟨A2, c2, rfl, _⟩ := hr.form
  have HQ := Lib.hid hq
  have HR := Lib.hid hr
  clear hq hr
  go_enter Try.func50, Try.ntmps50
  go_upto_region 1 with fail
  obtain ⟨W, hW, hE, hB, hC⟩ : ∃ W, W = (w.alloc (.cells #[.int .i64 e.epoch, .int .i64 e.peer, .int .i64 e.acked, .int .i64 e.sent, .int .i64 e.got, .int .i64 e.timer, .slice A e.queue.length c, .bool e.owe] 50)).alloc (.cells #[.int .i64 e.epoch, .int .i64 e.peer, .int .i64 e.acked, .int .i64 e.sent, .int .i64 e.got, .int .i64 e.timer, .slice A2 e.queue.length c2, .bool e.owe] 50) ∧ Ext w W ∧ W.heap[w.heap.size]? = some (.cells #[.int .i64 e.epoch, .int .i64 e.peer, .int .i64 e.acked, .int .i64 e.sent, .int .i64 e.got, .int .i64 e.timer, .slice A e.queue.length c, .bool e.owe] 50 (0, 0)) ∧ W.heap[w.heap.size + 1]? = some (.cells #[.int .i64 e.epoch, .int .i64 e.peer, .int .i64 e.acked, .int .i64 e.sent, .int .i64 e.got, .int .i64 e.timer, .slice A2 e.queue.length c2, .bool e.owe] 50 (0, 0)) := ⟨_, rfl, ((Ext.refl w).alloc _).alloc _, ((Ext.refl _).alloc _).heap (heap_alloc_new w _), by have := heap_alloc_new (w.alloc (.cells #[.int .i64 e.epoch, .int .i64 e.peer, .int .i64 e.acked, .int .i64 e.sent, .int .i64 e.got, .int .i64 e.timer, .slice A e.queue.length c, .bool e.owe] 50)) (.cells #[.int .i64 e.epoch, .int .i64 e.peer, .int .i64 e.acked, .int .i64 e.sent, .int .i64 e.got, .int .i64 e.timer, .slice A2 e.queue.length c2, .bool e.owe] 50); simpa using this⟩
  rw [← hW]
  clear hW
  obtain ⟨q0, q1, q2, q3, q4, q5, q6, q7⟩ := blk8 hB
  obtain ⟨p0, p1, p2, p3, p4, p5, p6, p7⟩ := blk8 hC
  have n0 : (e.epoch != e.epoch) = false := by simp
  have n1 : (e.peer != e.peer) = false := by simp
  have n2 : (e.acked != e.acked) = false := by simp
  have n3 : (e.sent != e.sent) = false := by simp
  have n4 : (e.got != e.got) = false := by simp
  have n5 : (e.timer != e.timer) = false := by simp
  have n7 : (e.owe != e.owe) = false := by simp
  go_wp2_with fail
  clear q0 q1 q2 q3 q4 q5 q6 q7 p0 p1 p2 p3 p4 p5 p6 p7 n0 n1 n2 n3 n4 n5 n7
  go_loopw [5] (fun i wr => ∃ j : Nat, j ≤ e.queue.length ∧ i = .int .i64 (j : Int) ∧ Ext W wr) (fun i _ => e.queue.length - (intOf i).toNat)
  case atStart => exact ⟨0, by omega, rfl, Ext.refl _⟩
  case round =>
    obtain ⟨j, hj, rfl, hX⟩ := hrel
    obtain ⟨wo, rfl⟩ : ∃ wo : World, wo = wr := ⟨_, rfl⟩
    have hB' := hX.heap hB
    have hC' := hX.heap hC
    obtain ⟨q0, q1, q2, q3, q4, q5, q6, q7⟩ := blk8 hB'
    by_cases hlt : j < e.queue.length
    · have hij : (j : Int) < (e.queue.length : Int) := by omega
      obtain ⟨b1, o1, x1, rfl, hc1, hi1⟩ := (HQ.out.ext (hE.trans hX)).at_ hlt
      obtain ⟨b2, o2, x2, rfl, hc2, hi2⟩ := (HR.out.ext (hE.trans hX)).at_ hlt
      generalize e.queue[j] = bj at *
      obtain ⟨X1, xc1, rfl, _, _⟩ := id hi1
      obtain ⟨X2, xc2, rfl, _, _⟩ := id hi2
      go_wp2_with fail
      clear q0 q1 q2 q3 q4 q5 q6 q7
      refine wp_region_X #[true, true, true, true, true, true, true, true, true, true, true, true, true] 13 0 (by kernel_rfl) rfl ?_
      refine wpX_v 0 (.pointer (some ⟨w.heap.size, 6, none⟩)) rfl rfl (by kernel_rfl) (by kernel_rfl) (by kernel_rfl) (fun _ _ _ _ h => h) (by kernel_rfl) rfl (by rfl) (fun W' hW => by
        skip
        go_simp) ?_
      simp only [List.setIfInBounds_toArray, List.set_cons_zero, List.set_cons_succ]
      refine wpX_v 1 (.slice (some ⟨b1, o1, none⟩) e.queue.length c) rfl rfl (by kernel_rfl) (by kernel_rfl) (by kernel_rfl) (fun _ _ _ _ h => h) (by kernel_rfl) rfl (by rfl) (fun W' hW => by
        have z1 := blk_at ((((Ext.refl wo).drew).trans hW).heap hB') 6 _ rfl
        have z2 := blk_at ((((Ext.refl wo).drew).trans hW).heap hC') 6 _ rfl
        have z3 := (((Ext.refl wo).drew).trans hW).cell hc1
        have z4 := (((Ext.refl wo).drew).trans hW).cell hc2
        have z5 := strB (hi1.ext (((Ext.refl wo).drew).trans hW))
        have z6 := strB (hi2.ext (((Ext.refl wo).drew).trans hW))
        go_simp) ?_
      simp only [List.setIfInBounds_toArray, List.set_cons_zero, List.set_cons_succ]
      refine wpX_v 2 (.int .i64 (j : Int)) rfl rfl (by kernel_rfl) (by kernel_rfl) (by kernel_rfl) (fun _ _ _ _ h => h) (by kernel_rfl) rfl (by rfl) (fun W' hW => by
        skip
        go_simp) ?_
      simp only [List.setIfInBounds_toArray, List.set_cons_zero, List.set_cons_succ]
      refine wpX_v 3 (.pointer (some ⟨b1, o1 + j, none⟩)) rfl rfl (by kernel_rfl) (by kernel_rfl) (by kernel_rfl) (fun _ _ _ _ h => h) (by kernel_rfl) rfl (by rfl) (fun W' hW => by
        skip
        go_simp) ?_
      simp only [List.setIfInBounds_toArray, List.set_cons_zero, List.set_cons_succ]
      refine wpX_v 4 (.slice X1 bj.length xc1) rfl rfl (by kernel_rfl) (by kernel_rfl) (by kernel_rfl) (fun _ _ _ _ h => h) (by kernel_rfl) rfl (by rfl) (fun W' hW => by
        have z1 := blk_at ((((Ext.refl wo).drew).trans hW).heap hB') 6 _ rfl
        have z2 := blk_at ((((Ext.refl wo).drew).trans hW).heap hC') 6 _ rfl
        have z3 := (((Ext.refl wo).drew).trans hW).cell hc1
        have z4 := (((Ext.refl wo).drew).trans hW).cell hc2
        have z5 := strB (hi1.ext (((Ext.refl wo).drew).trans hW))
        have z6 := strB (hi2.ext (((Ext.refl wo).drew).trans hW))
        go_simp) ?_
      simp only [List.setIfInBounds_toArray, List.set_cons_zero, List.set_cons_succ]
      refine wpX_v 5 (.string ⟨bj.toArray⟩) rfl rfl (by kernel_rfl) (by kernel_rfl) (by kernel_rfl) (fun _ _ _ _ h => h) (by kernel_rfl) rfl (by rfl) (fun W' hW => by
        have z1 := blk_at ((((Ext.refl wo).drew).trans hW).heap hB') 6 _ rfl
        have z2 := blk_at ((((Ext.refl wo).drew).trans hW).heap hC') 6 _ rfl
        have z3 := (((Ext.refl wo).drew).trans hW).cell hc1
        have z4 := (((Ext.refl wo).drew).trans hW).cell hc2
        have z5 := strB (hi1.ext (((Ext.refl wo).drew).trans hW))
        have z6 := strB (hi2.ext (((Ext.refl wo).drew).trans hW))
        go_simp) ?_
      simp only [List.setIfInBounds_toArray, List.set_cons_zero, List.set_cons_succ]
      refine wpX_v 6 (.pointer (some ⟨w.heap.size + 1, 6, none⟩)) rfl rfl (by kernel_rfl) (by kernel_rfl) (by kernel_rfl) (fun _ _ _ _ h => h) (by kernel_rfl) rfl (by rfl) (fun W' hW => by
        skip
        go_simp) ?_
      simp only [List.setIfInBounds_toArray, List.set_cons_zero, List.set_cons_succ]
      refine wpX_v 7 (.slice (some ⟨b2, o2, none⟩) e.queue.length c2) rfl rfl (by kernel_rfl) (by kernel_rfl) (by kernel_rfl) (fun _ _ _ _ h => h) (by kernel_rfl) rfl (by rfl) (fun W' hW => by
        have z1 := blk_at ((((Ext.refl wo).drew).trans hW).heap hB') 6 _ rfl
        have z2 := blk_at ((((Ext.refl wo).drew).trans hW).heap hC') 6 _ rfl
        have z3 := (((Ext.refl wo).drew).trans hW).cell hc1
        have z4 := (((Ext.refl wo).drew).trans hW).cell hc2
        have z5 := strB (hi1.ext (((Ext.refl wo).drew).trans hW))
        have z6 := strB (hi2.ext (((Ext.refl wo).drew).trans hW))
        go_simp) ?_
      simp only [List.setIfInBounds_toArray, List.set_cons_zero, List.set_cons_succ]
      refine wpX_v 8 (.int .i64 (j : Int)) rfl rfl (by kernel_rfl) (by kernel_rfl) (by kernel_rfl) (fun _ _ _ _ h => h) (by kernel_rfl) rfl (by rfl) (fun W' hW => by
        skip
        go_simp) ?_
      simp only [List.setIfInBounds_toArray, List.set_cons_zero, List.set_cons_succ]
      refine wpX_v 9 (.pointer (some ⟨b2, o2 + j, none⟩)) rfl rfl (by kernel_rfl) (by kernel_rfl) (by kernel_rfl) (fun _ _ _ _ h => h) (by kernel_rfl) rfl (by rfl) (fun W' hW => by
        skip
        go_simp) ?_
      simp only [List.setIfInBounds_toArray, List.set_cons_zero, List.set_cons_succ]
      refine wpX_v 10 (.slice X2 bj.length xc2) rfl rfl (by kernel_rfl) (by kernel_rfl) (by kernel_rfl) (fun _ _ _ _ h => h) (by kernel_rfl) rfl (by rfl) (fun W' hW => by
        have z1 := blk_at ((((Ext.refl wo).drew).trans hW).heap hB') 6 _ rfl
        have z2 := blk_at ((((Ext.refl wo).drew).trans hW).heap hC') 6 _ rfl
        have z3 := (((Ext.refl wo).drew).trans hW).cell hc1
        have z4 := (((Ext.refl wo).drew).trans hW).cell hc2
        have z5 := strB (hi1.ext (((Ext.refl wo).drew).trans hW))
        have z6 := strB (hi2.ext (((Ext.refl wo).drew).trans hW))
        go_simp) ?_
      simp only [List.setIfInBounds_toArray, List.set_cons_zero, List.set_cons_succ]
      refine wpX_v 11 (.string ⟨bj.toArray⟩) rfl rfl (by kernel_rfl) (by kernel_rfl) (by kernel_rfl) (fun _ _ _ _ h => h) (by kernel_rfl) rfl (by rfl) (fun W' hW => by
        have z1 := blk_at ((((Ext.refl wo).drew).trans hW).heap hB') 6 _ rfl
        have z2 := blk_at ((((Ext.refl wo).drew).trans hW).heap hC') 6 _ rfl
        have z3 := (((Ext.refl wo).drew).trans hW).cell hc1
        have z4 := (((Ext.refl wo).drew).trans hW).cell hc2
        have z5 := strB (hi1.ext (((Ext.refl wo).drew).trans hW))
        have z6 := strB (hi2.ext (((Ext.refl wo).drew).trans hW))
        go_simp) ?_
      simp only [List.setIfInBounds_toArray, List.set_cons_zero, List.set_cons_succ]
      refine wpX_v 12 (.bool false) rfl rfl (by kernel_rfl) (by kernel_rfl) (by kernel_rfl) (fun _ _ _ _ h => h) (by kernel_rfl) rfl (by rfl) (fun W' hW => by
        skip
        go_simp) ?_
      simp only [List.setIfInBounds_toArray, List.set_cons_zero, List.set_cons_succ]
      refine wpX_end rfl fun W5 hW5 => tail_none (by kernel_rfl) ?_
      refine NoPanic.normal ?_
      have hX5 := hX.trans (((Ext.refl wo).drew).trans hW5)
      go_wp2_with fail
      go_roundw
      case rel => exact ⟨j + 1, by omega, by go_num, hX5⟩
      case measure => simp [intOf]; omega
    · have hij : ¬ (j : Int) < (e.queue.length : Int) := by omega
      go_wp2_with fail
      go_ret
      exact ⟨rfl, hE.trans hX⟩

set_option maxRecDepth 100000 in
theorem same_self (u v : Value) (e : EP) (w : World) (hu : EPAt w u e) (hv : EPAt w v e) (hm : e.queue.length ≤ 1000000000) :
    Calls Try.prog 26 #[u, v] w fun en w' => en = .returned (.bool true) ∧ Ext w w' := by
  obtain ⟨y, rfl, hq⟩ := hu
  obtain ⟨A, c, rfl, _⟩ := hq.form
  obtain ⟨z, rfl, hr⟩ := hv
  obtain ⟨A2, c2, rfl, _⟩ := hr.form
  have HQ := Lib.hid hq
  have HR := Lib.hid hr
  clear hq hr
  go_enter Try.func26, Try.ntmps26
  go_upto_region 1 with fail
  obtain ⟨W, hW, hE, hB, hC⟩ : ∃ W, W = (w.alloc (.cells #[.int .i64 e.epoch, .int .i64 e.peer, .int .i64 e.acked, .int .i64 e.sent, .int .i64 e.got, .int .i64 e.timer, .slice A e.queue.length c, .bool e.owe] 45)).alloc (.cells #[.int .i64 e.epoch, .int .i64 e.peer, .int .i64 e.acked, .int .i64 e.sent, .int .i64 e.got, .int .i64 e.timer, .slice A2 e.queue.length c2, .bool e.owe] 50) ∧ Ext w W ∧ W.heap[w.heap.size]? = some (.cells #[.int .i64 e.epoch, .int .i64 e.peer, .int .i64 e.acked, .int .i64 e.sent, .int .i64 e.got, .int .i64 e.timer, .slice A e.queue.length c, .bool e.owe] 45 (0, 0)) ∧ W.heap[w.heap.size + 1]? = some (.cells #[.int .i64 e.epoch, .int .i64 e.peer, .int .i64 e.acked, .int .i64 e.sent, .int .i64 e.got, .int .i64 e.timer, .slice A2 e.queue.length c2, .bool e.owe] 50 (0, 0)) := ⟨_, rfl, ((Ext.refl w).alloc _).alloc _, ((Ext.refl _).alloc _).heap (heap_alloc_new w _), by have := heap_alloc_new (w.alloc (.cells #[.int .i64 e.epoch, .int .i64 e.peer, .int .i64 e.acked, .int .i64 e.sent, .int .i64 e.got, .int .i64 e.timer, .slice A e.queue.length c, .bool e.owe] 45)) (.cells #[.int .i64 e.epoch, .int .i64 e.peer, .int .i64 e.acked, .int .i64 e.sent, .int .i64 e.got, .int .i64 e.timer, .slice A2 e.queue.length c2, .bool e.owe] 50); simpa using this⟩
  rw [← hW]
  clear hW
  obtain ⟨q0, q1, q2, q3, q4, q5, q6, q7⟩ := blk8 hB
  obtain ⟨p0, p1, p2, p3, p4, p5, p6, p7⟩ := blk8 hC
  go_wp2_with fail
  refine (Same_self _ _ e W ⟨_, rfl, HQ.out.ext hE⟩ ⟨_, rfl, HR.out.ext hE⟩ hm).mono ?_
  rintro en w1 ⟨rfl, he⟩
  go_wp2_with fail
  go_ret
  exact ⟨rfl, hE.trans he⟩

set_option maxHeartbeats 1000000 in
set_option maxRecDepth 100000 in
theorem Bodies_self (u v : Value) (q : List (List UInt8)) (w : World) (hq : QIn w u q) (hr : QIn w v q) (hm : q.length ≤ 1000000000) :
    Calls Try.prog 27 #[u, v] w fun en w' => en = .returned (.bool true) ∧ Ext w w' := by
  obtain ⟨A, c, rfl, _⟩ := hq.form
  obtain ⟨A2, c2, rfl, _⟩ := hr.form
  have HQ := Lib.hid hq
  have HR := Lib.hid hr
  clear hq hr
  go_enter Try.func27, Try.ntmps27
  go_wp2_with fail
  go_loopw [5] (fun i wr => ∃ j : Nat, j ≤ q.length ∧ i = .int .i64 (j : Int) ∧ Ext w wr) (fun i _ => q.length - (intOf i).toNat)
  case atStart => exact ⟨0, by omega, rfl, Ext.refl _⟩
  case round =>
    obtain ⟨j, hj, rfl, hX⟩ := hrel
    obtain ⟨wo, rfl⟩ : ∃ wo : World, wo = wr := ⟨_, rfl⟩
    by_cases hlt : j < q.length
    · have hij : (j : Int) < (q.length : Int) := by omega
      obtain ⟨b1, o1, x1, rfl, hc1, hi1⟩ := (HQ.out.ext hX).at_ hlt
      obtain ⟨b2, o2, x2, rfl, hc2, hi2⟩ := (HR.out.ext hX).at_ hlt
      generalize q[j] = bj at *
      obtain ⟨X1, xc1, rfl, _, _⟩ := id hi1
      obtain ⟨X2, xc2, rfl, _, _⟩ := id hi2
      go_wp2_with fail
      refine wp_region_X #[true, true, true, true, true, true, true, true, true, true, true] 11 0 (by kernel_rfl) rfl ?_
      refine wpX_v 0 (.slice (some ⟨b1, o1, none⟩) q.length c) rfl rfl (by kernel_rfl) (by kernel_rfl) (by kernel_rfl) (fun _ _ _ _ h => h) (by kernel_rfl) rfl (by rfl) (fun W' hW => by
        skip
        go_simp) ?_
      simp only [List.setIfInBounds_toArray, List.set_cons_zero, List.set_cons_succ]
      refine wpX_v 1 (.int .i64 (j : Int)) rfl rfl (by kernel_rfl) (by kernel_rfl) (by kernel_rfl) (fun _ _ _ _ h => h) (by kernel_rfl) rfl (by rfl) (fun W' hW => by
        skip
        go_simp) ?_
      simp only [List.setIfInBounds_toArray, List.set_cons_zero, List.set_cons_succ]
      refine wpX_v 2 (.pointer (some ⟨b1, o1 + j, none⟩)) rfl rfl (by kernel_rfl) (by kernel_rfl) (by kernel_rfl) (fun _ _ _ _ h => h) (by kernel_rfl) rfl (by rfl) (fun W' hW => by
        skip
        go_simp) ?_
      simp only [List.setIfInBounds_toArray, List.set_cons_zero, List.set_cons_succ]
      refine wpX_v 3 (.slice X1 bj.length xc1) rfl rfl (by kernel_rfl) (by kernel_rfl) (by kernel_rfl) (fun _ _ _ _ h => h) (by kernel_rfl) rfl (by rfl) (fun W' hW => by
        have z3 := (((Ext.refl wo).drew).trans hW).cell hc1
        have z4 := (((Ext.refl wo).drew).trans hW).cell hc2
        have z5 := strB (hi1.ext (((Ext.refl wo).drew).trans hW))
        have z6 := strB (hi2.ext (((Ext.refl wo).drew).trans hW))
        go_simp) ?_
      simp only [List.setIfInBounds_toArray, List.set_cons_zero, List.set_cons_succ]
      refine wpX_v 4 (.string ⟨bj.toArray⟩) rfl rfl (by kernel_rfl) (by kernel_rfl) (by kernel_rfl) (fun _ _ _ _ h => h) (by kernel_rfl) rfl (by rfl) (fun W' hW => by
        have z3 := (((Ext.refl wo).drew).trans hW).cell hc1
        have z4 := (((Ext.refl wo).drew).trans hW).cell hc2
        have z5 := strB (hi1.ext (((Ext.refl wo).drew).trans hW))
        have z6 := strB (hi2.ext (((Ext.refl wo).drew).trans hW))
        go_simp) ?_
      simp only [List.setIfInBounds_toArray, List.set_cons_zero, List.set_cons_succ]
      refine wpX_v 5 (.slice (some ⟨b2, o2, none⟩) q.length c2) rfl rfl (by kernel_rfl) (by kernel_rfl) (by kernel_rfl) (fun _ _ _ _ h => h) (by kernel_rfl) rfl (by rfl) (fun W' hW => by
        skip
        go_simp) ?_
      simp only [List.setIfInBounds_toArray, List.set_cons_zero, List.set_cons_succ]
      refine wpX_v 6 (.int .i64 (j : Int)) rfl rfl (by kernel_rfl) (by kernel_rfl) (by kernel_rfl) (fun _ _ _ _ h => h) (by kernel_rfl) rfl (by rfl) (fun W' hW => by
        skip
        go_simp) ?_
      simp only [List.setIfInBounds_toArray, List.set_cons_zero, List.set_cons_succ]
      refine wpX_v 7 (.pointer (some ⟨b2, o2 + j, none⟩)) rfl rfl (by kernel_rfl) (by kernel_rfl) (by kernel_rfl) (fun _ _ _ _ h => h) (by kernel_rfl) rfl (by rfl) (fun W' hW => by
        skip
        go_simp) ?_
      simp only [List.setIfInBounds_toArray, List.set_cons_zero, List.set_cons_succ]
      refine wpX_v 8 (.slice X2 bj.length xc2) rfl rfl (by kernel_rfl) (by kernel_rfl) (by kernel_rfl) (fun _ _ _ _ h => h) (by kernel_rfl) rfl (by rfl) (fun W' hW => by
        have z3 := (((Ext.refl wo).drew).trans hW).cell hc1
        have z4 := (((Ext.refl wo).drew).trans hW).cell hc2
        have z5 := strB (hi1.ext (((Ext.refl wo).drew).trans hW))
        have z6 := strB (hi2.ext (((Ext.refl wo).drew).trans hW))
        go_simp) ?_
      simp only [List.setIfInBounds_toArray, List.set_cons_zero, List.set_cons_succ]
      refine wpX_v 9 (.string ⟨bj.toArray⟩) rfl rfl (by kernel_rfl) (by kernel_rfl) (by kernel_rfl) (fun _ _ _ _ h => h) (by kernel_rfl) rfl (by rfl) (fun W' hW => by
        have z3 := (((Ext.refl wo).drew).trans hW).cell hc1
        have z4 := (((Ext.refl wo).drew).trans hW).cell hc2
        have z5 := strB (hi1.ext (((Ext.refl wo).drew).trans hW))
        have z6 := strB (hi2.ext (((Ext.refl wo).drew).trans hW))
        go_simp) ?_
      simp only [List.setIfInBounds_toArray, List.set_cons_zero, List.set_cons_succ]
      refine wpX_v 10 (.bool false) rfl rfl (by kernel_rfl) (by kernel_rfl) (by kernel_rfl) (fun _ _ _ _ h => h) (by kernel_rfl) rfl (by rfl) (fun W' hW => by
        skip
        go_simp) ?_
      simp only [List.setIfInBounds_toArray, List.set_cons_zero, List.set_cons_succ]
      refine wpX_end rfl fun W5 hW5 => tail_none (by kernel_rfl) ?_
      refine NoPanic.normal ?_
      have hX5 := hX.trans (((Ext.refl wo).drew).trans hW5)
      go_wp2_with fail
      go_roundw
      case rel => exact ⟨j + 1, by omega, by go_num, hX5⟩
      case measure => simp [intOf]; omega
    · have hij : ¬ (j : Int) < (q.length : Int) := by omega
      go_wp2_with fail
      go_ret
      exact ⟨rfl, hX⟩
end Go.Proofs.Ytpngmnfjefplkaa
