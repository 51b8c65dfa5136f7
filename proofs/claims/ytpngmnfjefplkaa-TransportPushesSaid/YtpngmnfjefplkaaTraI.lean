/- TransportPushes: the walk. -/
import Derived.Test.YtpngmnfjefplkaaTraH
namespace Go.Proofs.Ytpngmnfjefplkaa
open Go.RowKit
set_option linter.unusedVariables false

theorem u8_info0 : (Try.prog.info? 5).map (fun i => (i.zero, i.size, i.bytes)) = some (some (.int .u8 0), 1, 1) := by kernel_rfl
theorem run_make_bytes (n : Nat) (hn : n ≤ 100000) (w : World) : (Instr.makeSlice 32 (.int .i64 (n : Int)) (.int .i64 (n : Int))).run Try.prog w = .ok (.slice (some ⟨w.heap.size, 0, none⟩) n n) (w.alloc (.cells (madeCells #[.int .u8 0] n) 5)) := by
  obtain ⟨i0, hi, hz0, hz1, hz2⟩ := info_parts u8_info0
  have hr := run_make (P := Try.prog) w 32 5 i0 _ Try.underlying32 hi hz0 .i64 .i64 (n : Int) (n : Int) (by omega) (by omega) (by rw [hz2]; omega) (by omega)
  have e1 : ((n : Int)).toNat = n := by omega
  simp only [e1, hz1, Nat.mul_one] at hr
  exact hr
theorem in_made (n : Nat) (w : World) : InB (w.alloc (.cells (madeCells #[.int .u8 0] n) 5)) (.slice (some ⟨w.heap.size, 0, none⟩) n n) (List.replicate n 0) := by
  have h := Rd_blk (heap_alloc_new w (.cells (madeCells #[.int .u8 0] n) 5))
  refine ⟨some ⟨w.heap.size, 0, none⟩, n, by simp, by simp, ?_⟩
  have e : (madeCells #[.int .u8 0] n).toList = (List.replicate n (0 : UInt8)).map bv := by simp [madeCells, bv, Nat.mod_one, List.map_const']
  rw [← e]
  exact h
theorem pushF_len (e : EP) (b : List UInt8) : (pushF e b).1.queue.length ≤ e.queue.length + 1 := by
  unfold pushF
  split
  · simp [ep0]
  · split
    · simp [ep0]
    · simp
set_option maxHeartbeats 1000000 in
set_option maxRecDepth 100000 in
theorem pushes_walk (v x : Value) (e : EP) (b : List UInt8) (long : Bool) (w : World) (he : EPAt w v e) (hb : InB w x b) (hl : b.length ≤ 9223372036854775807) :
    Calls Try.prog 7 #[v, x, .bool long] w fun en w' => en = .returned (.bool true) ∧ Ext w w' := by
  obtain ⟨y, rfl, hq⟩ := he
  obtain ⟨A, c, rfl, _⟩ := hq.form
  obtain ⟨B, cb, rfl, _, _⟩ := id hb
  have HQ := Lib.hid hq
  clear hq
  go_enter Try.func7, Try.ntmps7
  go_upto_region 1 with fail
  obtain ⟨W, hW, hE, hB⟩ : ∃ W, W = w.alloc (.cells #[.int .i64 e.epoch, .int .i64 e.peer, .int .i64 e.acked, .int .i64 e.sent, .int .i64 e.got, .int .i64 e.timer, .slice A e.queue.length c, .bool e.owe] 45) ∧ Ext w W ∧ W.heap[w.heap.size]? = some (.cells #[.int .i64 e.epoch, .int .i64 e.peer, .int .i64 e.acked, .int .i64 e.sent, .int .i64 e.got, .int .i64 e.timer, .slice A e.queue.length c, .bool e.owe] 45 (0, 0)) := ⟨_, rfl, (Ext.refl w).alloc _, heap_alloc_new w _⟩
  rw [← hW]
  clear hW
  obtain ⟨q0, q1, q2, q3, q4, q5, q6, q7⟩ := blk8 hB
  go_wp2_with fail
  clear q0 q1 q2 q3 q4 q5 q6 q7
  refine (large_any _ e.queue W (HQ.out.ext hE)).mono ?_
  rintro en w1 ⟨r, rfl, hr, hx1⟩
  have hE1 := hE.trans hx1
  cases r with
  | true =>
    go_wp2_with fail
    refine (awake35_any w1).mono ?_
    rintro en w2 ⟨rfl, he2⟩
    go_wp2_with fail
    go_ret
    exact ⟨rfl, hE1.trans he2⟩
  | false =>
    obtain ⟨hq20, hq300⟩ := hr rfl
    have HM : Hid e.Mid := Lib.hid ⟨by omega, fun b hb => by have := hq300 b hb; omega⟩
    clear hr hq300
    by_cases h3 : 300 < b.length
    · have h3' : decide ((300 : Int) < (b.length : Int)) = true := by simp; omega
      go_wp2_with fail
      refine (awake35_any w1).mono ?_
      rintro en w2 ⟨rfl, he2⟩
      go_wp2_with fail
      go_ret
      exact ⟨rfl, hE1.trans he2⟩
    have h3' : decide ((300 : Int) < (b.length : Int)) = false := by simp; omega
    go_upto_region 3 with fail
    go_upto_if 20 with fail
    go_cut [1] (fun s wx => ∃ b', InB wx s b' ∧ b'.length ≤ 6001 ∧ Ext w1 wx)
    case first =>
      cases long with
      | true =>
        obtain ⟨k, hk⟩ : ∃ k : Nat, k = b.length % 2 := ⟨_, rfl⟩
        have hk2 : k < 2 := by omega
        have htm : Int.tmod (b.length : Int) 2 = (k : Int) := by rw [hk]; rfl
        obtain ⟨n, hn⟩ : ∃ n : Nat, n = 6000 + k := ⟨_, rfl⟩
        have hmk : ∀ W, (Instr.makeSlice 32 (.int .i64 (6001 + (k : Int) - 1)) (.int .i64 (6001 + (k : Int) - 1))).run Try.prog W = .ok (.slice (some ⟨W.heap.size, 0, none⟩) n n) (W.alloc (.cells (madeCells #[.int .u8 0] n) 5)) := fun W => by
          rw [show (6001 + (k : Int) - 1) = (n : Int) by omega]
          exact run_make_bytes n (by omega) W
        have HN := Lib.hid hn
        clear hk hn
        go_wp2_with fail
        go_meet
        exact ⟨List.replicate n 0, in_made n w1, by have := HN.out; simp; omega, (Ext.refl w1).alloc _⟩
      | false =>
        go_wp2_with fail
        go_meet
        exact ⟨b, hb.ext hE1, by omega, Ext.refl _⟩
    case rest =>
      obtain ⟨b', hb', hbl, hx2⟩ := hcut
      have hE2 := hE1.trans hx2
      have hB2 := (hx1.trans hx2).heap hB
      obtain ⟨B', cb', rfl, _, _⟩ := id hb'
      have hld := run_loadAt_blk (P := Try.prog) wc w.heap.size 45 45 _ (0, 0) _ hB2 Try.underlying45 rfl ep_size
      go_wp2_with first | refine wpList_load_run rfl 45 (.tmp 3) rfl _ _ rfl hld ?_
      refine (Push_any _ _ e b' wc ⟨_, rfl, HQ.out.ext hE2⟩ HM.out hb').mono ?_
      rintro en w3 ⟨y3, e3, er3, rfl, heq3, hq3, hx3⟩
      obtain ⟨A3, c3, rfl, _⟩ := hq3.form
      have hP := heap_alloc_new w3 (.cells #[.int .i64 0, .int .i64 0, .int .i64 0, .int .i64 0, .int .i64 0, .int .i64 0, .slice none 0 0, .bool false] 45)
      have hst := run_storeAt_blk (P := Try.prog) (w3.alloc (.cells #[.int .i64 0, .int .i64 0, .int .i64 0, .int .i64 0, .int .i64 0, .int .i64 0, .slice none 0 0, .bool false] 45)) w3.heap.size 45 45 _ #[.int .i64 e3.epoch, .int .i64 e3.peer, .int .i64 e3.acked, .int .i64 e3.sent, .int .i64 e3.got, .int .i64 e3.timer, .slice A3 e3.queue.length c3, .bool e3.owe] hP ep_size rfl (by simp [Value.oneCell'])
      clear hld
      go_upto_region 6 with first | refine wpList_store_run rfl 45 (.tmp 7) (.tmp 31) rfl _ _ _ rfl rfl hst ?_
      have hB4 := setRow_heap (w3.alloc (.cells #[.int .i64 0, .int .i64 0, .int .i64 0, .int .i64 0, .int .i64 0, .int .i64 0, .slice none 0 0, .bool false] 45)) w3.heap.size _ #[.int .i64 e3.epoch, .int .i64 e3.peer, .int .i64 e3.acked, .int .i64 e3.sent, .int .i64 e3.got, .int .i64 e3.timer, .slice A3 e3.queue.length c3, .bool e3.owe] _ _ hP
      have hX4 := hx3.trans (((Ext.refl w3).alloc (.cells #[.int .i64 0, .int .i64 0, .int .i64 0, .int .i64 0, .int .i64 0, .int .i64 0, .slice none 0 0, .bool false] 45)).grown (gsetRow (w3.alloc (.cells #[.int .i64 0, .int .i64 0, .int .i64 0, .int .i64 0, .int .i64 0, .int .i64 0, .slice none 0 0, .bool false] 45)) w3.heap.size #[.int .i64 e3.epoch, .int .i64 e3.peer, .int .i64 e3.acked, .int .i64 e3.sent, .int .i64 e3.got, .int .i64 e3.timer, .slice A3 e3.queue.length c3, .bool e3.owe]) (fun k e => by cases e; exact Nat.le_refl _))
      have hq4 := hq3.ext (((Ext.refl w3).alloc (.cells #[.int .i64 0, .int .i64 0, .int .i64 0, .int .i64 0, .int .i64 0, .int .i64 0, .slice none 0 0, .bool false] 45)).grown (gsetRow (w3.alloc (.cells #[.int .i64 0, .int .i64 0, .int .i64 0, .int .i64 0, .int .i64 0, .int .i64 0, .slice none 0 0, .bool false] 45)) w3.heap.size #[.int .i64 e3.epoch, .int .i64 e3.peer, .int .i64 e3.acked, .int .i64 e3.sent, .int .i64 e3.got, .int .i64 e3.timer, .slice A3 e3.queue.length c3, .bool e3.owe]) (fun k e => by cases e; exact Nat.le_refl _))
      clear hst hP hx3 hq3
      generalize (w3.alloc (.cells #[.int .i64 0, .int .i64 0, .int .i64 0, .int .i64 0, .int .i64 0, .int .i64 0, .slice none 0 0, .bool false] 45)).setRow w3.heap.size #[.int .i64 e3.epoch, .int .i64 e3.peer, .int .i64 e3.acked, .int .i64 e3.sent, .int .i64 e3.got, .int .i64 e3.timer, .slice A3 e3.queue.length c3, .bool e3.owe] = w4 at *
      generalize w3.heap.size = g4 at *
      have hE4 := hE2.trans hX4
      have hld := run_loadAt_blk (P := Try.prog) w4 w.heap.size 45 45 _ (0, 0) _ (hX4.heap hB2) Try.underlying45 rfl ep_size
      go_wp2_with first | refine wpList_load_run rfl 45 (.tmp 3) rfl _ _ rfl hld ?_
      refine (refPush_any _ _ e b' w4 ⟨_, rfl, HQ.out.ext hE4⟩ HM.out (hb'.ext hX4)).mono ?_
      rintro en w5 ⟨y5, e5, er5, rfl, heq5, hq5, hx5⟩
      rw [← heq3] at heq5
      injection heq5 with h1 h2
      subst h1
      subst h2
      have hlen : e5.queue.length ≤ 1000000000 := by
        have := pushF_len e b'
        rw [← heq3] at this
        have : e5.queue.length ≤ e.queue.length + 1 := this
        omega
      obtain ⟨A5, c5, rfl, _⟩ := hq5.form
      have hP := heap_alloc_new w5 (.cells #[.int .i64 0, .int .i64 0, .int .i64 0, .int .i64 0, .int .i64 0, .int .i64 0, .slice none 0 0, .bool false] 50)
      have hst := run_storeAt_blk (P := Try.prog) (w5.alloc (.cells #[.int .i64 0, .int .i64 0, .int .i64 0, .int .i64 0, .int .i64 0, .int .i64 0, .slice none 0 0, .bool false] 50)) w5.heap.size 50 50 _ #[.int .i64 e5.epoch, .int .i64 e5.peer, .int .i64 e5.acked, .int .i64 e5.sent, .int .i64 e5.got, .int .i64 e5.timer, .slice A5 e5.queue.length c5, .bool e5.owe] hP re_size rfl (by simp [Value.oneCell'])
      clear hld heq3
      go_upto_region 7 with first | refine wpList_store_run rfl 50 (.tmp 9) (.tmp 37) rfl _ _ _ rfl rfl hst ?_
      have hB6 := setRow_heap (w5.alloc (.cells #[.int .i64 0, .int .i64 0, .int .i64 0, .int .i64 0, .int .i64 0, .int .i64 0, .slice none 0 0, .bool false] 50)) w5.heap.size _ #[.int .i64 e5.epoch, .int .i64 e5.peer, .int .i64 e5.acked, .int .i64 e5.sent, .int .i64 e5.got, .int .i64 e5.timer, .slice A5 e5.queue.length c5, .bool e5.owe] _ _ hP
      have hX56 := (((Ext.refl w5).alloc (.cells #[.int .i64 0, .int .i64 0, .int .i64 0, .int .i64 0, .int .i64 0, .int .i64 0, .slice none 0 0, .bool false] 50)).grown (gsetRow (w5.alloc (.cells #[.int .i64 0, .int .i64 0, .int .i64 0, .int .i64 0, .int .i64 0, .int .i64 0, .slice none 0 0, .bool false] 50)) w5.heap.size #[.int .i64 e5.epoch, .int .i64 e5.peer, .int .i64 e5.acked, .int .i64 e5.sent, .int .i64 e5.got, .int .i64 e5.timer, .slice A5 e5.queue.length c5, .bool e5.owe]) (fun k e => by cases e; exact Nat.le_refl _))
      have hX6 := hx5.trans hX56
      have hq6 := hq5.ext hX56
      have hq6' := hq4.ext hX6
      have hB6' := hX6.heap hB4
      have hE6 := hE4.trans hX6
      clear hst hP hx5 hX56 hX6 hq5 hq4 hB4 hX4
      generalize (w5.alloc (.cells #[.int .i64 0, .int .i64 0, .int .i64 0, .int .i64 0, .int .i64 0, .int .i64 0, .slice none 0 0, .bool false] 50)).setRow w5.heap.size #[.int .i64 e5.epoch, .int .i64 e5.peer, .int .i64 e5.acked, .int .i64 e5.sent, .int .i64 e5.got, .int .i64 e5.timer, .slice A5 e5.queue.length c5, .bool e5.owe] = w6 at *
      generalize w5.heap.size = g6 at *
      obtain ⟨q0, q1, q2, q3, q4, q5, q6, q7⟩ := blk8 hB6'
      obtain ⟨p0, p1, p2, p3, p4, p5, p6, p7⟩ := blk8 hB6
      have hee : (er5 == er5) = true := by simp
      go_wp2_with fail
      refine (same_self _ _ e5 w6 ⟨_, rfl, hq6'⟩ ⟨_, rfl, hq6⟩ hlen).mono ?_
      rintro en w7 ⟨rfl, hx7⟩
      clear q0 q1 q2 q3 q4 q5 q6 q7 p0 p1 p2 p3 p4 p5 p6 p7
      go_wp2_with fail
      refine (awake35_any w7).mono ?_
      rintro en w8 ⟨rfl, hx8⟩
      go_wp2_with fail
      go_ret
      exact ⟨rfl, (hE6.trans hx7).trans hx8⟩
end Go.Proofs.Ytpngmnfjefplkaa
