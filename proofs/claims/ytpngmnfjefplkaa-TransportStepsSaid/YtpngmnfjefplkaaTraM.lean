/- TransportSteps: the walk. -/
import Derived.Test.YtpngmnfjefplkaaTraL
import Derived.Test.YtpngmnfjefplkaaTraJ
import Derived.Test.YtpngmnfjefplkaaTraH
namespace Go.Proofs.Ytpngmnfjefplkaa
open Go.RowKit
set_option linter.unusedVariables false

theorem pollF_len (e : EP) (now : Int) : (pollF e now).1.queue = e.queue ∧ (pollF e now).2.length ≤ 10 := by
  unfold pollF
  refine ⟨?_, ?_⟩
  · show (pollM e now).1.queue = e.queue
    unfold pollM
    split
    · split <;> rfl
    · rfl
  · show (pollM e now).2.length ≤ 10
    unfold pollM
    split
    · split
      · have := sendF_len [] ⟨1, e.epoch, 0, 0, 0, []⟩
        simp at this ⊢; omega
      · simp
    · generalize hk : min 4 e.queue.length - (e.first now - e.acked).toNat = k
      have h1 := outsL_len e (e.first now) k
      have h2 := sendF_len (outsL e (e.first now) k) ⟨3, e.epoch, e.peer, 0, e.got, []⟩
      simp only
      split
      · omega
      · omega
theorem recvF_len (e : EP) (p : Pkt) (er : Int) : (recvF e p er).1.queue.length ≤ e.queue.length ∧ (recvF e p er).2.1.length ≤ 1 := by
  have h1 : (recv1 e p).1.queue.length ≤ e.queue.length := by
    unfold recv1
    split
    · show (if e.peer = 0 then e.queue else []).length ≤ _
      split <;> simp
    · exact Nat.le_refl _
  have h2 : ∀ e', (recv2 e' p).queue.length ≤ e'.queue.length := fun e' => by
    unfold recv2
    split
    · show (e'.queue.drop _).length ≤ _
      simp
    · exact Nat.le_refl _
  have h3 : ∀ e', (recv3 e' p).1.queue = e'.queue ∧ (recv3 e' p).2.length ≤ 1 := fun e' => by
    unfold recv3
    split
    · split
      · exact ⟨rfl, by simp⟩
      · exact ⟨rfl, by simp⟩
    · split
      · exact ⟨rfl, by simp⟩
      · exact ⟨rfl, by simp⟩
  unfold recvF
  split
  · exact ⟨Nat.le_refl _, by simp⟩
  · split
    · exact ⟨h1, by simp⟩
    · simp only
      rw [(h3 _).1]
      exact ⟨Nat.le_trans (h2 _) h1, (h3 _).2⟩
/-- the boxes of TransportSteps -/
structure SS (w : World) (g : Nat) (yq : Value) (e : EP) (k s d q a : Int) (yb : Value) (W : World) : Prop where
  ep : W.heap[w.heap.size]? = some (.cells #[.int .i64 e.epoch, .int .i64 e.peer, .int .i64 e.acked, .int .i64 e.sent, .int .i64 e.got, .int .i64 e.timer, yq, .bool e.owe] 45 (0, 0))
  pk : W.heap[w.heap.size + 1]? = some (.cells #[.int .i64 k, .int .i64 s, .int .i64 d, .int .i64 q, .int .i64 a, yb] 47 (0, 0))
  rf : W.heap[g]? = some (.cells #[.int .i64 e.epoch, .int .i64 e.peer, .int .i64 e.acked, .int .i64 e.sent, .int .i64 e.got, .int .i64 e.timer, yq, .bool e.owe] 50 (0, 0))
  ext : Ext w W
  lt : w.heap.size + 1 < g
section
variable {w : World} {g : Nat} {yq : Value} {e : EP} {k s d q a : Int} {yb : Value} {W : World}
theorem SS.grow {W' : World} (H : SS w g yq e k s d q a yb W) (hx : Ext W W') : SS w g yq e k s d q a yb W' := ⟨hx.heap H.ep, hx.heap H.pk, hx.heap H.rf, H.ext.trans hx, H.lt⟩
theorem SS.put (H : SS w g yq e k s d q a yb W) (j : Nat) (u : Value) (k' s' d' q' a' : Int) (yb' : Value)
    (he : ((#[.int .i64 k, .int .i64 s, .int .i64 d, .int .i64 q, .int .i64 a, yb] : Array Value).setIfInBounds j u) = #[.int .i64 k', .int .i64 s', .int .i64 d', .int .i64 q', .int .i64 a', yb']) :
    SS w g yq e k' s' d' q' a' yb' (W.setCell ⟨w.heap.size + 1, j, none⟩ u) :=
  ⟨blk_far H.ep (by show w.heap.size ≠ w.heap.size + 1; omega) u, by rw [blk_set H.pk j u, he], blk_far H.rf (by show g ≠ w.heap.size + 1; have := H.lt; omega) u, H.ext.setCell (by show w.heap.size ≤ w.heap.size + 1; omega) u, H.lt⟩
end
set_option maxHeartbeats 2000000 in
set_option maxRecDepth 100000 in
theorem steps_walk (v u x : Value) (e : EP) (p : Pkt) (raw : List UInt8) (now epoch : Int) (w : World) (he : EPAt w v e) (hp : PktAt w u p) (hr : InB w x raw) (hlp : p.body.length ≤ 9223372036854775807) (hlr : raw.length ≤ 9223372036854775807) :
    Calls Try.prog 6 #[v, u, x, .int .i64 now, .int .i64 epoch] w fun en w' => en = .returned (.bool true) ∧ Ext w w' := by
  obtain ⟨y, rfl, hq⟩ := he
  obtain ⟨A, c, rfl, hcap⟩ := hq.form
  obtain ⟨yb, rfl, hpb⟩ := hp
  obtain ⟨Ap, cp, rfl, _, _⟩ := id hpb
  obtain ⟨Ar, cr, rfl, _, _⟩ := id hr
  have HQ := Lib.hid hq
  have HPB := Lib.hid hpb
  have HR := Lib.hid hr
  clear hq hpb hr
  go_enter Try.func6, Try.ntmps6
  go_upto_region 1 with fail
  obtain ⟨W, hW, hE, hB, hP⟩ : ∃ W, W = (w.alloc (.cells #[.int .i64 e.epoch, .int .i64 e.peer, .int .i64 e.acked, .int .i64 e.sent, .int .i64 e.got, .int .i64 e.timer, .slice A e.queue.length c, .bool e.owe] 45)).alloc (.cells #[.int .i64 p.kind, .int .i64 p.src, .int .i64 p.dst, .int .i64 p.seq, .int .i64 p.ack, .slice Ap p.body.length cp] 47) ∧ Ext w W ∧ W.heap[w.heap.size]? = some (.cells #[.int .i64 e.epoch, .int .i64 e.peer, .int .i64 e.acked, .int .i64 e.sent, .int .i64 e.got, .int .i64 e.timer, .slice A e.queue.length c, .bool e.owe] 45 (0, 0)) ∧ W.heap[w.heap.size + 1]? = some (.cells #[.int .i64 p.kind, .int .i64 p.src, .int .i64 p.dst, .int .i64 p.seq, .int .i64 p.ack, .slice Ap p.body.length cp] 47 (0, 0)) := ⟨_, rfl, ((Ext.refl w).alloc _).alloc _, ((Ext.refl _).alloc _).heap (heap_alloc_new w _), by have := heap_alloc_new (w.alloc (.cells #[.int .i64 e.epoch, .int .i64 e.peer, .int .i64 e.acked, .int .i64 e.sent, .int .i64 e.got, .int .i64 e.timer, .slice A e.queue.length c, .bool e.owe] 45)) (.cells #[.int .i64 p.kind, .int .i64 p.src, .int .i64 p.dst, .int .i64 p.seq, .int .i64 p.ack, .slice Ap p.body.length cp] 47); simpa using this⟩
  rw [← hW]
  clear hW
  go_cut [39] (fun s wx => ∃ bd, s = .bool bd ∧ (bd = false → e.queue.length ≤ 20 ∧ (∀ b ∈ e.queue, b.length ≤ 300) ∧ p.body.length ≤ 300 ∧ raw.length ≤ 500) ∧ Ext W wx)
  case first =>
    obtain ⟨q0, q1, q2, q3, q4, q5, q6, q7⟩ := blk8 hB
    go_wp2_with fail
    refine (large_any _ e.queue W (HQ.out.ext hE)).mono ?_
    rintro en w1 ⟨r, rfl, hr, hx1⟩
    have hP1 := hx1.heap hP
    clear q0 q1 q2 q3 q4 q5 q6 q7
    obtain ⟨p0, p1, p2, p3, p4, p5⟩ := blk6 hP1
    cases r with
    | true =>
      clear hr
      go_wp2_with fail
      go_meet
      exact ⟨true, rfl, (fun h => by cases h), hx1⟩
    | false =>
      have HRR := Lib.hid (hr rfl)
      clear hr
      by_cases h3 : 300 < p.body.length
      · have h3' : decide ((300 : Int) < (p.body.length : Int)) = true := by simp; omega
        go_wp2_with fail
        go_meet
        exact ⟨true, rfl, (fun h => by cases h), hx1⟩
      have h3' : decide ((300 : Int) < (p.body.length : Int)) = false := by simp; omega
      by_cases h5 : 500 < raw.length
      · have h5' : decide ((500 : Int) < (raw.length : Int)) = true := by simp; omega
        go_wp2_with fail
        go_meet
        exact ⟨true, rfl, (fun h => by cases h), hx1⟩
      have h5' : decide ((500 : Int) < (raw.length : Int)) = false := by simp; omega
      go_wp2_with fail
      go_meet
      exact ⟨false, rfl, fun _ => ⟨HRR.out.1, HRR.out.2, by omega, by omega⟩, hx1⟩
  case rest =>
    obtain ⟨bd, rfl, hbd, hx1⟩ := hcut
    have hE1 := hE.trans hx1
    cases bd with
    | true =>
      clear hbd
      go_wp2_with fail
      refine (awake35_any wc).mono ?_
      rintro en w2 ⟨rfl, he2⟩
      go_wp2_with fail
      go_ret
      exact ⟨rfl, hE1.trans he2⟩
    | false =>
      obtain ⟨hq20, hq300, hp300, hr500⟩ := hbd rfl
      clear hbd
      have HT := Lib.hid (rightE_tame e (by omega) (fun b hb => by have := hq300 b hb; omega))
      have HC := Lib.hid (rightE_cons e)
      have HQR : Hid ((rightE e).queue = e.queue) := Lib.hid rfl
      clear hq300
      have hB1 := hx1.heap hB
      have hP1 := hx1.heap hP
      have hld := run_loadAt_blk (P := Try.prog) wc w.heap.size 45 45 _ (0, 0) _ hB1 Try.underlying45 rfl ep_size
      go_wp2_with first | refine wpList_load_run rfl 45 (.tmp 5) rfl _ _ rfl hld ?_
      refine (right_any _ e wc (HQ.out.ext hE1) (by omega)).mono ?_
      rintro en w3 ⟨rfl, hx3⟩
      obtain ⟨f, hf⟩ : ∃ f, f = rightE e := ⟨_, rfl⟩
      rw [← hf] at HT HC HQR
      simp only [← hf]
      have HQF : Hid (QIn w (.slice A e.queue.length c) f.queue) := Lib.hid (by rw [HQR.out]; exact HQ.out)
      have hfl : f.queue.length ≤ 20 := by rw [HQR.out]; exact hq20
      clear hf HQR
      have hB3 := hx3.heap hB1
      have hst := run_storeAt_blk (P := Try.prog) w3 w.heap.size 45 45 _ #[.int .i64 f.epoch, .int .i64 f.peer, .int .i64 f.acked, .int .i64 f.sent, .int .i64 f.got, .int .i64 f.timer, .slice A e.queue.length c, .bool f.owe] hB3 ep_size rfl (by simp [Value.oneCell'])
      clear hld
      go_upto_region 4 with first | refine wpList_store_run rfl 45 (.tmp 5) (.tmp 42) rfl _ _ _ rfl rfl hst ?_
      have hB4 := setRow_heap w3 w.heap.size _ #[.int .i64 f.epoch, .int .i64 f.peer, .int .i64 f.acked, .int .i64 f.sent, .int .i64 f.got, .int .i64 f.timer, .slice A e.queue.length c, .bool f.owe] _ _ hB3
      have hP4 := blk_grown (hx3.heap hP1) (gsetRow w3 w.heap.size #[.int .i64 f.epoch, .int .i64 f.peer, .int .i64 f.acked, .int .i64 f.sent, .int .i64 f.got, .int .i64 f.timer, .slice A e.queue.length c, .bool f.owe]) (by simp)
      have hE4 := (hE1.trans hx3).grown (gsetRow w3 w.heap.size #[.int .i64 f.epoch, .int .i64 f.peer, .int .i64 f.acked, .int .i64 f.sent, .int .i64 f.got, .int .i64 f.timer, .slice A e.queue.length c, .bool f.owe]) (fun k e => by cases e; omega)
      clear hst hB3 hB1 hP1 hx3 hx1 hE1 hB hP hE
      generalize w3.setRow w.heap.size #[.int .i64 f.epoch, .int .i64 f.peer, .int .i64 f.acked, .int .i64 f.sent, .int .i64 f.got, .int .i64 f.timer, .slice A e.queue.length c, .bool f.owe] = w4 at *
      have hld := run_loadAt_blk (P := Try.prog) w4 w.heap.size 45 45 _ (0, 0) _ hB4 Try.underlying45 rfl ep_size
      have hP := heap_alloc_new w4 (.cells #[.int .i64 0, .int .i64 0, .int .i64 0, .int .i64 0, .int .i64 0, .int .i64 0, .slice none 0 0, .bool false] 50)
      have hst := run_storeAt_blk (P := Try.prog) (w4.alloc (.cells #[.int .i64 0, .int .i64 0, .int .i64 0, .int .i64 0, .int .i64 0, .int .i64 0, .slice none 0 0, .bool false] 50)) w4.heap.size 50 50 _ #[.int .i64 f.epoch, .int .i64 f.peer, .int .i64 f.acked, .int .i64 f.sent, .int .i64 f.got, .int .i64 f.timer, .slice A e.queue.length c, .bool f.owe] hP re_size rfl (by simp [Value.oneCell'])
      go_upto_region 5 with first | refine wpList_load_run rfl 45 (.tmp 5) rfl _ _ rfl hld ?_ | refine wpList_store_run rfl 50 (.tmp 11) (.tmp 43) rfl _ _ _ rfl rfl hst ?_
      have hR5 := setRow_heap (w4.alloc (.cells #[.int .i64 0, .int .i64 0, .int .i64 0, .int .i64 0, .int .i64 0, .int .i64 0, .slice none 0 0, .bool false] 50)) w4.heap.size _ #[.int .i64 f.epoch, .int .i64 f.peer, .int .i64 f.acked, .int .i64 f.sent, .int .i64 f.got, .int .i64 f.timer, .slice A e.queue.length c, .bool f.owe] _ _ hP
      have hX5 := (((Ext.refl w4).alloc (.cells #[.int .i64 0, .int .i64 0, .int .i64 0, .int .i64 0, .int .i64 0, .int .i64 0, .slice none 0 0, .bool false] 50)).grown (gsetRow (w4.alloc (.cells #[.int .i64 0, .int .i64 0, .int .i64 0, .int .i64 0, .int .i64 0, .int .i64 0, .slice none 0 0, .bool false] 50)) w4.heap.size #[.int .i64 f.epoch, .int .i64 f.peer, .int .i64 f.acked, .int .i64 f.sent, .int .i64 f.got, .int .i64 f.timer, .slice A e.queue.length c, .bool f.owe]) (fun k e => by cases e; exact Nat.le_refl _))
      have hlt4 := heap_lt hP4
      have hS : SS w w4.heap.size (.slice A e.queue.length c) f p.kind p.src p.dst p.seq p.ack (.slice Ap p.body.length cp) ((w4.alloc (.cells #[.int .i64 0, .int .i64 0, .int .i64 0, .int .i64 0, .int .i64 0, .int .i64 0, .slice none 0 0, .bool false] 50)).setRow w4.heap.size #[.int .i64 f.epoch, .int .i64 f.peer, .int .i64 f.acked, .int .i64 f.sent, .int .i64 f.got, .int .i64 f.timer, .slice A e.queue.length c, .bool f.owe]) := ⟨hX5.heap hB4, hX5.heap hP4, hR5, hE4.trans hX5, hlt4⟩
      clear hld hst hP hB4 hP4 hE4 hR5 hX5 hlt4
      generalize (w4.alloc (.cells #[.int .i64 0, .int .i64 0, .int .i64 0, .int .i64 0, .int .i64 0, .int .i64 0, .slice none 0 0, .bool false] 50)).setRow w4.heap.size #[.int .i64 f.epoch, .int .i64 f.peer, .int .i64 f.acked, .int .i64 f.sent, .int .i64 f.got, .int .i64 f.timer, .slice A e.queue.length c, .bool f.owe] = w5 at *
      generalize w4.heap.size = g at *
      go_wp2_with fail
      refine (Mod_any now 60 w5 (by omega) (by omega)).mono ?_
      rintro en w5' ⟨rfl, rfl⟩
      obtain ⟨n, hn⟩ : ∃ n, n = now % 60 := ⟨_, rfl⟩
      rw [← hn]
      have HN : Hid (tame n) := Lib.hid (by unfold tame; omega)
      clear hn
      have hld := run_loadAt_blk (P := Try.prog) w5 w.heap.size 45 45 _ (0, 0) _ hS.ep Try.underlying45 rfl ep_size
      go_wp2_with first | refine wpList_load_run rfl 45 (.tmp 5) rfl _ _ rfl hld ?_
      refine (Poll_any _ f n w5 ⟨_, rfl, HQF.out.ext hS.ext⟩ HT.out HC.out HN.out).mono ?_
      rintro en w6 ⟨y6, yo6, e6, o6, rfl, heq6, hq6, ho6, hx6⟩
      obtain ⟨A6, c6, rfl, _⟩ := hq6.form
      obtain ⟨B6, d6, rfl, _⟩ := ho6.form
      clear hld
      replace hS := hS.grow hx6
      have hP := heap_alloc_new w6 (.cells #[.int .i64 0, .int .i64 0, .int .i64 0, .int .i64 0, .int .i64 0, .int .i64 0, .slice none 0 0, .bool false] 45)
      have hst := run_storeAt_blk (P := Try.prog) (w6.alloc (.cells #[.int .i64 0, .int .i64 0, .int .i64 0, .int .i64 0, .int .i64 0, .int .i64 0, .slice none 0 0, .bool false] 45)) w6.heap.size 45 45 _ #[.int .i64 e6.epoch, .int .i64 e6.peer, .int .i64 e6.acked, .int .i64 e6.sent, .int .i64 e6.got, .int .i64 e6.timer, .slice A6 e6.queue.length c6, .bool e6.owe] hP ep_size rfl (by simp [Value.oneCell'])
      go_upto_region 7 with first | refine wpList_store_run rfl 45 (.tmp 12) (.tmp 50) rfl _ _ _ rfl rfl hst ?_
      have hB7 := setRow_heap (w6.alloc (.cells #[.int .i64 0, .int .i64 0, .int .i64 0, .int .i64 0, .int .i64 0, .int .i64 0, .slice none 0 0, .bool false] 45)) w6.heap.size _ #[.int .i64 e6.epoch, .int .i64 e6.peer, .int .i64 e6.acked, .int .i64 e6.sent, .int .i64 e6.got, .int .i64 e6.timer, .slice A6 e6.queue.length c6, .bool e6.owe] _ _ hP
      have hXl := (((Ext.refl w6).alloc (.cells #[.int .i64 0, .int .i64 0, .int .i64 0, .int .i64 0, .int .i64 0, .int .i64 0, .slice none 0 0, .bool false] 45)).grown (gsetRow (w6.alloc (.cells #[.int .i64 0, .int .i64 0, .int .i64 0, .int .i64 0, .int .i64 0, .int .i64 0, .slice none 0 0, .bool false] 45)) w6.heap.size #[.int .i64 e6.epoch, .int .i64 e6.peer, .int .i64 e6.acked, .int .i64 e6.sent, .int .i64 e6.got, .int .i64 e6.timer, .slice A6 e6.queue.length c6, .bool e6.owe]) (fun k e => by cases e; exact Nat.le_refl _))
      clear hst hP
      generalize (w6.alloc (.cells #[.int .i64 0, .int .i64 0, .int .i64 0, .int .i64 0, .int .i64 0, .int .i64 0, .slice none 0 0, .bool false] 45)).setRow w6.heap.size #[.int .i64 e6.epoch, .int .i64 e6.peer, .int .i64 e6.acked, .int .i64 e6.sent, .int .i64 e6.got, .int .i64 e6.timer, .slice A6 e6.queue.length c6, .bool e6.owe] = w7 at *
      replace hS := hS.grow hXl
      have hq7 := hq6.ext hXl
      have ho7 := ho6.ext hXl
      clear hXl hq6 ho6 hx6
      generalize w6.heap.size = g7 at *
      have hld := run_loadAt_blk (P := Try.prog) w7 g 50 50 _ (0, 0) _ hS.rf Try.underlying50 rfl re_size
      go_wp2_with first | refine wpList_load_run rfl 50 (.tmp 11) rfl _ _ rfl hld ?_
      refine (refPoll_any _ f n w7 ⟨_, rfl, HQF.out.ext hS.ext⟩ HT.out HC.out HN.out).mono ?_
      rintro en w8 ⟨y8, yo8, e8, o8, rfl, heq8, hq8, ho8, hx8⟩
      obtain ⟨hl1, hl2⟩ := pollF_len f n
      rw [← heq6] at heq8 hl1 hl2
      injection heq8 with h1 h2
      subst h1
      subst h2
      have hql : e8.queue.length ≤ 1000000000 := by have : e8.queue = f.queue := hl1; rw [this]; omega
      have hol : o8.length ≤ 1000000000 := by have : o8.length ≤ 10 := hl2; omega
      clear hl1 hl2 heq6 hld
      obtain ⟨A8, c8, rfl, _⟩ := hq8.form
      obtain ⟨B8, d8, rfl, _⟩ := ho8.form
      replace hS := hS.grow hx8
      have hB8 := hx8.heap hB7
      replace hq7 := hq7.ext hx8
      replace ho7 := ho7.ext hx8
      clear hB7 hx8
      have hP := heap_alloc_new w8 (.cells #[.int .i64 0, .int .i64 0, .int .i64 0, .int .i64 0, .int .i64 0, .int .i64 0, .slice none 0 0, .bool false] 50)
      have hst := run_storeAt_blk (P := Try.prog) (w8.alloc (.cells #[.int .i64 0, .int .i64 0, .int .i64 0, .int .i64 0, .int .i64 0, .int .i64 0, .slice none 0 0, .bool false] 50)) w8.heap.size 50 50 _ #[.int .i64 e8.epoch, .int .i64 e8.peer, .int .i64 e8.acked, .int .i64 e8.sent, .int .i64 e8.got, .int .i64 e8.timer, .slice A8 e8.queue.length c8, .bool e8.owe] hP re_size rfl (by simp [Value.oneCell'])
      go_upto_region 8 with first | refine wpList_store_run rfl 50 (.tmp 14) (.tmp 56) rfl _ _ _ rfl rfl hst ?_
      have hR9 := setRow_heap (w8.alloc (.cells #[.int .i64 0, .int .i64 0, .int .i64 0, .int .i64 0, .int .i64 0, .int .i64 0, .slice none 0 0, .bool false] 50)) w8.heap.size _ #[.int .i64 e8.epoch, .int .i64 e8.peer, .int .i64 e8.acked, .int .i64 e8.sent, .int .i64 e8.got, .int .i64 e8.timer, .slice A8 e8.queue.length c8, .bool e8.owe] _ _ hP
      have hXl := (((Ext.refl w8).alloc (.cells #[.int .i64 0, .int .i64 0, .int .i64 0, .int .i64 0, .int .i64 0, .int .i64 0, .slice none 0 0, .bool false] 50)).grown (gsetRow (w8.alloc (.cells #[.int .i64 0, .int .i64 0, .int .i64 0, .int .i64 0, .int .i64 0, .int .i64 0, .slice none 0 0, .bool false] 50)) w8.heap.size #[.int .i64 e8.epoch, .int .i64 e8.peer, .int .i64 e8.acked, .int .i64 e8.sent, .int .i64 e8.got, .int .i64 e8.timer, .slice A8 e8.queue.length c8, .bool e8.owe]) (fun k e => by cases e; exact Nat.le_refl _))
      clear hst hP
      generalize (w8.alloc (.cells #[.int .i64 0, .int .i64 0, .int .i64 0, .int .i64 0, .int .i64 0, .int .i64 0, .slice none 0 0, .bool false] 50)).setRow w8.heap.size #[.int .i64 e8.epoch, .int .i64 e8.peer, .int .i64 e8.acked, .int .i64 e8.sent, .int .i64 e8.got, .int .i64 e8.timer, .slice A8 e8.queue.length c8, .bool e8.owe] = w9 at *
      replace hS := hS.grow hXl
      have hB9 := hXl.heap hB8
      have hq9 := hq7.ext hXl
      have ho9 := ho7.ext hXl
      have hq9' := hq8.ext hXl
      have ho9' := ho8.ext hXl
      clear hXl hB8 hq7 ho7 hq8 ho8
      generalize w8.heap.size = g8 at *
      have hld1 := run_loadAt_blk (P := Try.prog) w9 g7 45 45 _ (0, 0) _ hB9 Try.underlying45 rfl ep_size
      have hld2 := run_loadAt_blk (P := Try.prog) w9 g8 50 50 _ (0, 0) _ hR9 Try.underlying50 rfl re_size
      go_wp2_with first | refine wpList_load_run rfl 45 (.tmp 12) rfl _ _ rfl hld1 ?_ | refine wpList_load_run rfl 50 (.tmp 14) rfl _ _ rfl hld2 ?_
      refine (same_self _ _ e8 w9 ⟨_, rfl, hq9⟩ ⟨_, rfl, hq9'⟩ hql).mono ?_
      rintro en w10 ⟨rfl, hx10⟩
      clear hld1 hld2
      go_wp2_with fail
      refine (Bodies_self _ _ o8 w10 (ho9.ext hx10) (ho9'.ext hx10) hol).mono ?_
      rintro en w11 ⟨rfl, hx11⟩
      replace hS := (hS.grow hx10).grow hx11
      clear hB9 hR9 hq9 ho9 hq9' ho9' hql hol hx10 hx11
      obtain ⟨p0, p1, p2, p3, p4, p5⟩ := blk6 hS.pk
      obtain ⟨f0, f1, f2, f3, f4, f5⟩ := blk6f hS.pk
      have hlt := heap_lt hS.pk
      have hwk : IntKind.i64.wrap (1 + p.kind % 3) = 1 + p.kind % 3 := by rw [IntKind.wrap_i64]; omega
      go_wp2_with fail
      refine (Mod_any p.kind 3 w11 (by omega) (by omega)).mono ?_
      rintro en w11' ⟨rfl, rfl⟩
      go_upto_region 11 with fail
      clear p0 p1 p2 p3 p4 p5 f0 f1 f2 f3 f4 f5 hlt hwk
      obtain ⟨kd, hkd⟩ : ∃ kd, kd = 1 + p.kind % 3 := ⟨_, rfl⟩
      rw [← hkd]
      clear hkd
      replace hS := hS.put 0 (.int .i64 kd) kd p.src p.dst p.seq p.ack _ rfl
      generalize w11.setCell ⟨w.heap.size + 1, 0, none⟩ (.int .i64 kd) = w12 at *
      obtain ⟨p0, p1, p2, p3, p4, p5⟩ := blk6 hS.pk
      have hws : IntKind.i64.wrap (1 + p.src % 7) = 1 + p.src % 7 := by rw [IntKind.wrap_i64]; omega
      refine wp_region_still_tail 11 (by kernel_rfl) (by kernel_rfl) ?_
      simp only [List.take_succ_cons, List.take_zero, List.drop_succ_cons, List.drop_zero]
      still_step
      still_step
      still_call (Mod_still p.src 7 _ (by omega) (by omega))
      still_step
      still_step
      still_step
      still_call (Mod_still p.dst 8 _ (by omega) (by omega))
      still_step
      still_step
      still_call (Mod_still p.ack 60 _ (by omega) (by omega))
      still_step
      clear hws p0 p1 p2 p3 p4 p5
      refine wpStill_nil ?_
      change wpList _ _ _ _ _ w12.drew
      replace hS := hS.grow ((Ext.refl w12).drew)
      generalize w12.drew = w13 at *
      obtain ⟨sr, hsr⟩ : ∃ sr, sr = 1 + p.src % 7 := ⟨_, rfl⟩
      obtain ⟨ds, hds⟩ : ∃ ds, ds = p.dst % 8 := ⟨_, rfl⟩
      obtain ⟨ac, hac⟩ : ∃ ac, ac = p.ack % 60 := ⟨_, rfl⟩
      rw [← hsr, ← hds, ← hac]
      clear hsr hds hac
      obtain ⟨p0, p1, p2, p3, p4, p5⟩ := blk6 hS.pk
      obtain ⟨f0, f1, f2, f3, f4, f5⟩ := blk6f hS.pk
      have hlt := heap_lt hS.pk
      go_upto_region 12 with fail
      replace hS := ((hS.put 1 (.int .i64 sr) kd sr p.dst p.seq p.ack _ rfl).put 2 (.int .i64 ds) kd sr ds p.seq p.ack _ rfl).put 4 (.int .i64 ac) kd sr ds p.seq ac _ rfl
      clear p0 p1 p2 p3 p4 p5 f0 f1 f2 f3 f4 f5 hlt
      generalize ((w13.setCell ⟨w.heap.size + 1, 1, none⟩ (.int .i64 sr)).setCell ⟨w.heap.size + 1, 2, none⟩ (.int .i64 ds)).setCell ⟨w.heap.size + 1, 4, none⟩ (.int .i64 ac) = w14 at *
      obtain ⟨p0, p1, p2, p3, p4, p5⟩ := blk6 hS.pk
      obtain ⟨f0, f1, f2, f3, f4, f5⟩ := blk6f hS.pk
      have hlt := heap_lt hS.pk
      go_upto_if 88 with fail
      go_cut [88] (fun _ wx => ∃ (q : Int) (yb : Value) (b : List UInt8), SS w g (.slice A e.queue.length c) f kd sr ds q ac yb wx ∧ InB w yb b ∧ b.length ≤ 300)
      case first =>
        by_cases hk2 : kd = 2
        · have e2 : (kd == 2) = true := by simpa using hk2
          have hws : IntKind.i64.wrap (1 + p.seq % 60) = 1 + p.seq % 60 := by rw [IntKind.wrap_i64]; omega
          clear hk2
          go_wp2_with fail
          refine (Mod_any p.seq 60 w14 (by omega) (by omega)).mono ?_
          rintro en w15 ⟨rfl, rfl⟩
          go_wp2_with fail
          go_meet
          exact ⟨_, _, p.body, hS.put 3 (.int .i64 (1 + p.seq % 60)) kd sr ds (1 + p.seq % 60) ac _ rfl, HPB.out, hp300⟩
        · have e2 : (kd == 2) = false := by simpa using hk2
          clear hk2
          go_wp2_with fail
          go_meet
          exact ⟨_, _, [], (hS.put 3 (.int .i64 0) kd sr ds 0 ac _ rfl).put 5 (.slice none 0 0) kd sr ds 0 ac _ rfl, InV.nil w, by simp⟩
      case rest =>
        clear hS p0 p1 p2 p3 p4 p5 f0 f1 f2 f3 f4 f5 hlt
        obtain ⟨q, yb, b, hS, hyb, hb300⟩ := hcut
        obtain ⟨Ab, cb, rfl, _, _⟩ := id hyb
        have hld := run_loadAt_blk (P := Try.prog) wc (w.heap.size + 1) 47 47 _ (0, 0) _ hS.pk Try.underlying47 rfl pk_size
        go_wp2_with first | refine wpList_load_run rfl 47 (.tmp 6) rfl _ _ rfl hld ?_
        refine (refEncode_any _ ⟨kd, sr, ds, q, ac, b⟩ wc ⟨_, rfl, hyb.ext hS.ext⟩ (by show b.length ≤ _; omega)).mono ?_
        rintro en w15 ⟨yd, er, rfl, hcd, hx15⟩
        obtain ⟨d, hd, hdl⟩ : ∃ d, InB w15 yd d ∧ d.length ≤ 6060 := by
          rcases hcd with ⟨hR, rfl, ho⟩ | ⟨hR, rfl, rfl⟩
          · exact ⟨_, ho.inV, (enc_len hR).2⟩
          · exact ⟨[], InV.nil w15, by simp⟩
        clear hcd hld
        obtain ⟨Ad, cd, rfl, _, _⟩ := id hd
        replace hS := hS.grow hx15
        have hR15 := HR.out.ext hS.ext
        have hA16 := (Ext.refl w15).alloc (.cells #[.slice Ad d.length cd, .slice Ar raw.length cr] 32)
        have hQ2 : QIn (w15.alloc (.cells #[.slice Ad d.length cd, .slice Ar raw.length cr] 32)) (.slice (some ⟨w15.heap.size, 0, none⟩) 2 2) [d, raw] := ⟨[⟨Ad, d.length, cd, d⟩, ⟨Ar, raw.length, cr, raw⟩], rfl, (OwnV_new2 (f := bodyV) w15 ⟨Ad, d.length, cd, d⟩ ⟨Ar, raw.length, cr, raw⟩ 32).inV, fun z hz => by
          simp only [List.mem_cons, List.not_mem_nil, or_false] at hz
          rcases hz with rfl | rfl
          · exact hd.ext hA16
          · exact hR15.ext hA16⟩
        go_upto_region 17 with fail
        replace hS := hS.grow hA16
        clear hd hR15 hA16 hx15
        generalize w15.alloc (.cells #[.slice Ad d.length cd, .slice Ar raw.length cr] 32) = w16 at *
        generalize w15.heap.size = g15 at *
        have HQ2 := Lib.hid hQ2
        clear hQ2
        go_wp2_with fail
        go_loopw [105] (fun i wr => ∃ j : Nat, j ≤ 2 ∧ i = .int .i64 (j : Int) ∧ Ext w16 wr) (fun i _ => 2 - (intOf i).toNat)
        case atStart => exact ⟨0, by omega, rfl, Ext.refl _⟩
        case round =>
          obtain ⟨j, hj, rfl, hX⟩ := hrel
          obtain ⟨wo, rfl⟩ : ∃ wo : World, wo = wr := ⟨_, rfl⟩
          have hSo := hS.grow hX
          by_cases hj2 : j < 2
          · have hij : (j : Int) < 2 := by omega
            obtain ⟨bb, oo, xv, he, hcx, hix⟩ := (HQ2.out.ext hX).at_ (j := j) (by simpa using hj2)
            injection he with he
            injection he with he1 he2
            subst he1
            subst he2
            have hbl : ∀ z ∈ [d, raw], z.length ≤ 1000000 := by
              intro z hz
              simp only [List.mem_cons, List.not_mem_nil, or_false] at hz
              rcases hz with rfl | rfl <;> omega
            replace hbl := hbl _ (List.getElem_mem (show j < [d, raw].length by simpa using hj2))
            generalize [d, raw][j] = bx at *
            obtain ⟨Ax, cx, rfl, _, _⟩ := id hix
            simp only [Nat.zero_add] at hcx
            have hld := run_loadAt_blk (P := Try.prog) wo w.heap.size 45 45 _ (0, 0) _ hSo.ep Try.underlying45 rfl ep_size
            go_wp2_with first | refine wpList_load_run rfl 45 (.tmp 5) rfl _ _ rfl hld ?_
            refine (Receive_any _ _ f bx wo ⟨_, rfl, HQF.out.ext hSo.ext⟩ hix HT.out HC.out hbl).mono ?_
            rintro en v1 ⟨y1, ym1, e1, ms1, rs1, p1, er1, rfl, hD1, heq1, hq1, hm1, hx1⟩
            obtain ⟨A1, c1, rfl, _⟩ := hq1.form
            obtain ⟨M1, d1, rfl, _⟩ := hm1.form
            clear hld
            have hX1 := hX.trans hx1
            replace hSo := hSo.grow hx1
            replace hix := hix.ext hx1
            clear hx1 hcx
            have hP := heap_alloc_new v1 (.cells #[.int .i64 0, .int .i64 0, .int .i64 0, .int .i64 0, .int .i64 0, .int .i64 0, .slice none 0 0, .bool false] 45)
            have hst := run_storeAt_blk (P := Try.prog) (v1.alloc (.cells #[.int .i64 0, .int .i64 0, .int .i64 0, .int .i64 0, .int .i64 0, .int .i64 0, .slice none 0 0, .bool false] 45)) v1.heap.size 45 45 _ #[.int .i64 e1.epoch, .int .i64 e1.peer, .int .i64 e1.acked, .int .i64 e1.sent, .int .i64 e1.got, .int .i64 e1.timer, .slice A1 e1.queue.length c1, .bool e1.owe] hP ep_size rfl (by simp [Value.oneCell'])
            go_upto_region 20 with first | refine wpList_store_run rfl 45 (.tmp 20) (.tmp 113) rfl _ _ _ rfl rfl hst ?_
            have hB2 := setRow_heap (v1.alloc (.cells #[.int .i64 0, .int .i64 0, .int .i64 0, .int .i64 0, .int .i64 0, .int .i64 0, .slice none 0 0, .bool false] 45)) v1.heap.size _ #[.int .i64 e1.epoch, .int .i64 e1.peer, .int .i64 e1.acked, .int .i64 e1.sent, .int .i64 e1.got, .int .i64 e1.timer, .slice A1 e1.queue.length c1, .bool e1.owe] _ _ hP
            have hXl := (((Ext.refl v1).alloc (.cells #[.int .i64 0, .int .i64 0, .int .i64 0, .int .i64 0, .int .i64 0, .int .i64 0, .slice none 0 0, .bool false] 45)).grown (gsetRow (v1.alloc (.cells #[.int .i64 0, .int .i64 0, .int .i64 0, .int .i64 0, .int .i64 0, .int .i64 0, .slice none 0 0, .bool false] 45)) v1.heap.size #[.int .i64 e1.epoch, .int .i64 e1.peer, .int .i64 e1.acked, .int .i64 e1.sent, .int .i64 e1.got, .int .i64 e1.timer, .slice A1 e1.queue.length c1, .bool e1.owe]) (fun k e => by cases e; exact Nat.le_refl _))
            clear hst hP
            generalize (v1.alloc (.cells #[.int .i64 0, .int .i64 0, .int .i64 0, .int .i64 0, .int .i64 0, .int .i64 0, .slice none 0 0, .bool false] 45)).setRow v1.heap.size #[.int .i64 e1.epoch, .int .i64 e1.peer, .int .i64 e1.acked, .int .i64 e1.sent, .int .i64 e1.got, .int .i64 e1.timer, .slice A1 e1.queue.length c1, .bool e1.owe] = v2 at *
            replace hX1 := hX1.trans hXl
            replace hSo := hSo.grow hXl
            replace hix := hix.ext hXl
            replace hq1 := hq1.ext hXl
            replace hm1 := hm1.ext hXl
            clear hXl
            generalize v1.heap.size = k1 at *
            have hld := run_loadAt_blk (P := Try.prog) v2 g 50 50 _ (0, 0) _ hSo.rf Try.underlying50 rfl re_size
            go_wp2_with first | refine wpList_load_run rfl 50 (.tmp 11) rfl _ _ rfl hld ?_
            refine (refReceive_any _ _ f bx v2 ⟨_, rfl, HQF.out.ext hSo.ext⟩ hix HT.out hbl).mono ?_
            rintro en v3 ⟨y3, ym3, e3, ms3, rs3, p3, er3, rfl, hD3, heq3, hq3, hm3, hx3⟩
            obtain ⟨rfl, rfl⟩ := hD1.one hD3
            obtain ⟨hl1, hl2⟩ := recvF_len f p1 er1
            rw [← heq1] at heq3 hl1 hl2
            injection heq3 with h1 h2
            injection h2 with h2 h3
            subst h1
            subst h2
            subst h3
            have hql : e3.queue.length ≤ 1000000000 := by have : e3.queue.length ≤ f.queue.length := hl1; omega
            have hol : ms3.length ≤ 1000000000 := by have : ms3.length ≤ 1 := hl2; omega
            clear hl1 hl2 heq1 hD1 hD3 hld
            obtain ⟨A3, c3, rfl, _⟩ := hq3.form
            obtain ⟨M3, d3, rfl, _⟩ := hm3.form
            have hB3 := hx3.heap hB2
            replace hX1 := hX1.trans hx3
            replace hq1 := hq1.ext hx3
            replace hm1 := hm1.ext hx3
            clear hB2 hx3 hSo hix
            have hP := heap_alloc_new v3 (.cells #[.int .i64 0, .int .i64 0, .int .i64 0, .int .i64 0, .int .i64 0, .int .i64 0, .slice none 0 0, .bool false] 50)
            have hst := run_storeAt_blk (P := Try.prog) (v3.alloc (.cells #[.int .i64 0, .int .i64 0, .int .i64 0, .int .i64 0, .int .i64 0, .int .i64 0, .slice none 0 0, .bool false] 50)) v3.heap.size 50 50 _ #[.int .i64 e3.epoch, .int .i64 e3.peer, .int .i64 e3.acked, .int .i64 e3.sent, .int .i64 e3.got, .int .i64 e3.timer, .slice A3 e3.queue.length c3, .bool e3.owe] hP re_size rfl (by simp [Value.oneCell'])
            go_upto_region 21 with first | refine wpList_store_run rfl 50 (.tmp 23) (.tmp 120) rfl _ _ _ rfl rfl hst ?_
            have hR4 := setRow_heap (v3.alloc (.cells #[.int .i64 0, .int .i64 0, .int .i64 0, .int .i64 0, .int .i64 0, .int .i64 0, .slice none 0 0, .bool false] 50)) v3.heap.size _ #[.int .i64 e3.epoch, .int .i64 e3.peer, .int .i64 e3.acked, .int .i64 e3.sent, .int .i64 e3.got, .int .i64 e3.timer, .slice A3 e3.queue.length c3, .bool e3.owe] _ _ hP
            have hXl := (((Ext.refl v3).alloc (.cells #[.int .i64 0, .int .i64 0, .int .i64 0, .int .i64 0, .int .i64 0, .int .i64 0, .slice none 0 0, .bool false] 50)).grown (gsetRow (v3.alloc (.cells #[.int .i64 0, .int .i64 0, .int .i64 0, .int .i64 0, .int .i64 0, .int .i64 0, .slice none 0 0, .bool false] 50)) v3.heap.size #[.int .i64 e3.epoch, .int .i64 e3.peer, .int .i64 e3.acked, .int .i64 e3.sent, .int .i64 e3.got, .int .i64 e3.timer, .slice A3 e3.queue.length c3, .bool e3.owe]) (fun k e => by cases e; exact Nat.le_refl _))
            clear hst hP
            generalize (v3.alloc (.cells #[.int .i64 0, .int .i64 0, .int .i64 0, .int .i64 0, .int .i64 0, .int .i64 0, .slice none 0 0, .bool false] 50)).setRow v3.heap.size #[.int .i64 e3.epoch, .int .i64 e3.peer, .int .i64 e3.acked, .int .i64 e3.sent, .int .i64 e3.got, .int .i64 e3.timer, .slice A3 e3.queue.length c3, .bool e3.owe] = v4 at *
            replace hX1 := hX1.trans hXl
            replace hq1 := hq1.ext hXl
            replace hm1 := hm1.ext hXl
            replace hq3 := hq3.ext hXl
            replace hm3 := hm3.ext hXl
            have hB4 := hXl.heap hB3
            clear hXl hB3
            generalize v3.heap.size = k3 at *
            have hld1 := run_loadAt_blk (P := Try.prog) v4 k1 45 45 _ (0, 0) _ hB4 Try.underlying45 rfl ep_size
            have hld2 := run_loadAt_blk (P := Try.prog) v4 k3 50 50 _ (0, 0) _ hR4 Try.underlying50 rfl re_size
            have hne : (rs3 != rs3) = false := by simp
            go_wp2_with first | refine wpList_load_run rfl 45 (.tmp 20) rfl _ _ rfl hld1 ?_ | refine wpList_load_run rfl 50 (.tmp 23) rfl _ _ rfl hld2 ?_
            refine (same_self _ _ e3 v4 ⟨_, rfl, hq1⟩ ⟨_, rfl, hq3⟩ hql).mono ?_
            rintro en v5 ⟨rfl, hx5⟩
            clear hld1 hld2
            go_wp2_with fail
            refine (Bodies_self _ _ ms3 v5 (hm1.ext hx5) (hm3.ext hx5) hol).mono ?_
            rintro en v6 ⟨rfl, hx6⟩
            go_wp2_with fail
            go_roundw
            case rel => exact ⟨j + 1, by omega, by go_num, (hX1.trans hx5).trans hx6⟩
            case measure => simp [intOf]; omega
          · have hij : ¬ (j : Int) < 2 := by omega
            go_wp2_with fail
            refine (New_any epoch wo).mono ?_
            rintro en v1 ⟨rfl, hx1⟩
            go_wp2_with fail
            refine (refNew_any epoch v1).mono ?_
            rintro en v2 ⟨rfl, hx2⟩
            go_wp2_with fail
            refine (same_self _ _ (newE epoch) v2 ⟨_, rfl, QIn.nil _⟩ ⟨_, rfl, QIn.nil _⟩ (by simp [newE])).mono ?_
            rintro en v3 ⟨rfl, hx3⟩
            go_wp2_with fail
            refine (awake35_any v3).mono ?_
            rintro en v4 ⟨rfl, hx4⟩
            go_wp2_with fail
            go_ret
            exact ⟨rfl, (((hSo.ext.trans hx1).trans hx2).trans hx3).trans hx4⟩
end Go.Proofs.Ytpngmnfjefplkaa
