/- Receive of the reference. -/
import Derived.Test.YtpngmnfjefplkaaTraG
namespace Go.Proofs.Ytpngmnfjefplkaa
open Go.RowKit
set_option linter.unusedVariables false

def recv3a (e : EP) (p : Pkt) : EP × List (List UInt8) := if p.kind = 2 then recv3 e p else (e, [])
theorem recv3_eq (e : EP) (p : Pkt) : recv3 e p = if p.kind = 1 then ((recv3a e p).1.owes, (recv3a e p).2) else recv3a e p := by
  by_cases h2 : p.kind = 2
  · rw [recv3a, if_pos h2, if_neg (by omega)]
  · rw [recv3a, if_neg h2]
    by_cases h1 : p.kind = 1
    · rw [if_pos h1, recv3, if_neg h2, if_pos h1]
    · rw [if_neg h1, recv3, if_neg h2, if_neg h1]
theorem Kept.low {b b' : Nat} {xs : List Nat} {a c : World} (h : Kept b xs a c) (hb : b' ≤ b) : Kept b' xs a c := ⟨h.os, h.tape, h.output, h.size, fun i hi hx => h.block i (Nat.lt_of_lt_of_le hi hb) hx⟩
/-- messages that lie still while the blocks h and h + 1 are written -/
def QSt (h : Nat) (W : World) (y : Value) (q : List (List UInt8)) : Prop := ∃ zs : List Body, zs.map Body.b = q ∧ ∀ W', Kept W.heap.size [h, h + 1] W W' → InV bodyV W' y zs ∧ ∀ z ∈ zs, InB W' (bodyV z) z.b
theorem QSt.mono {h : Nat} {W W1 : World} {y : Value} {q : List (List UInt8)} (H : QSt h W y q) (hk : Kept W.heap.size [h, h + 1] W W1) : QSt h W1 y q := by
  obtain ⟨zs, h1, h2⟩ := H
  exact ⟨zs, h1, fun W' hk' => h2 W' (hk.trans (hk'.low hk.size))⟩
theorem QSt.in_ {h : Nat} {W W1 : World} {y : Value} {q : List (List UInt8)} (H : QSt h W y q) (hk : Kept W.heap.size [h, h + 1] W W1) : QIn W1 y q := by
  obtain ⟨zs, h1, h2⟩ := H
  exact ⟨zs, h1, h2 W1 hk⟩
theorem QSt.of_in {h : Nat} {w W : World} {y : Value} {q : List (List UInt8)} (H : QIn w y q) (he : Ext w W) (hh : w.heap.size ≤ h) : QSt h W y q := by
  obtain ⟨zs, h1, h2, h3⟩ := H
  refine ⟨zs, h1, fun W' hk => ?_⟩
  have hx := hk.ext he he.size (by simp; omega)
  exact ⟨h2.ext hx, fun z hz => (h3 z hz).ext hx⟩
theorem QSt.nil (h : Nat) (W : World) : QSt h W (.slice none 0 0) [] := ⟨[], rfl, fun W' _ => ⟨InV.nil W', by simp⟩⟩
/-- where the reference's Receive stands -/
structure RSr (w0 : World) (h : Nat) (e : EP) (W : World) : Prop where
  ep : ∃ y, W.heap[h]? = some (.cells #[.int .i64 e.epoch, .int .i64 e.peer, .int .i64 e.acked, .int .i64 e.sent, .int .i64 e.got, .int .i64 e.timer, y, .bool e.owe] 50 (0, 0)) ∧ QSt h W y e.queue
  kept : Kept w0.heap.size [h] w0 W
theorem kput (W : World) (h j : Nat) (u : Value) : Kept W.heap.size [h, h + 1] W (W.setCell ⟨h, j, none⟩ u) := (Kept.put (Kept.refl _ [h] W) j u).two
theorem RSr.form {w0 : World} {h : Nat} {e : EP} {W : World} (H : RSr w0 h e W) : ∃ A c, W.heap[h]? = some (.cells #[.int .i64 e.epoch, .int .i64 e.peer, .int .i64 e.acked, .int .i64 e.sent, .int .i64 e.got, .int .i64 e.timer, .slice A e.queue.length c, .bool e.owe] 50 (0, 0)) ∧ e.queue.length ≤ c ∧ QSt h W (.slice A e.queue.length c) e.queue := by
  obtain ⟨y, h1, h2⟩ := H.ep
  obtain ⟨A, c, rfl, hc⟩ := (h2.in_ (Kept.refl _ _ _)).form
  exact ⟨A, c, h1, hc, h2⟩
theorem RSr.ext {w0 : World} {h : Nat} {e : EP} {W W' : World} (H : RSr w0 h e W) (hx : Ext W W') : RSr w0 h e W' := by
  obtain ⟨y, h1, h2⟩ := H.ep
  exact ⟨⟨y, hx.heap h1, h2.mono (Kept.of_ext hx (Nat.le_refl _))⟩, H.kept.trans (Kept.of_ext hx H.kept.size)⟩
/-- the messages of the reference: a row of its own, bodies that lie still -/
def MSr (w0 : World) (h : Nat) (W : World) (m : Value) (ms : List (List UInt8)) : Prop := ∃ zs : List Body, zs.map Body.b = ms ∧ OwnV bodyV 32 w0.heap.size W m zs ∧ ∀ z ∈ zs, ∀ W', Kept w0.heap.size [h, h + 1] w0 W' → InB W' (bodyV z) z.b
theorem MSr.nil (w0 : World) (h : Nat) (W : World) : MSr w0 h W (.slice none 0 0) [] := ⟨[], rfl, OwnV.nil W, by simp⟩
theorem MSr.far {w0 : World} {h g : Nat} {W W' : World} {m : Value} {ms : List (List UInt8)} {cs : Array Value} {t : TypeId} {fr : Nat × Nat} (H : MSr w0 h W m ms) (hg : W.grownBy W' (some g)) (hb : W.heap[g]? = some (.cells cs t fr)) (t1 : 32 ≠ t) : MSr w0 h W' m ms := by
  obtain ⟨zs, h1, h2, h3⟩ := H
  exact ⟨zs, h1, h2.kept hg (.inr (h2.ne_blk hb t1)), h3⟩
theorem MSr.in_ {w0 : World} {h : Nat} {W : World} {m : Value} {ms : List (List UInt8)} (H : MSr w0 h W m ms) (hk : Kept w0.heap.size [h, h + 1] w0 W) : QIn W m ms := by
  obtain ⟨zs, h1, h2, h3⟩ := H
  exact ⟨zs, h1, h2.inV, fun z hz => h3 z hz W hk⟩
theorem InV_suf (A : Option Addr) (c lo len : Nat) (h1 : lo ≤ len) (hc : len ≤ c) : ∃ A' c', (∀ W, (Instr.slice 43 (.slice A len c) (some (.int .i64 (lo : Int))) none none).run Try.prog W = .ok (.slice A' (len - lo) c') W) ∧ ∀ W (zs : List Body), zs.length = len → InV bodyV W (.slice A len c) zs → InV bodyV W (.slice A' (len - lo) c') (zs.drop lo) := by
  obtain ⟨i0, hi, hz0, hz1, hz2⟩ := info_parts bs_info
  refine ⟨if c = lo then A else A.map (·.add (lo * i0.size)), c - lo, fun W => run_slice_l Try.underlying43 hi A _ c lo h1 hc W, fun W zs hl hq => ?_⟩
  obtain ⟨A1, c1, e, hc1, hr⟩ := hq
  injection e with ea eb ec
  subst ea
  subst ec
  refine ⟨if c = lo then A else A.map (·.add (lo * i0.size)), c - lo, by simp [hl], by simp; omega, ?_⟩
  rw [hz1, Nat.mul_one, List.map_drop]
  exact hr.sub c lo (fun e => List.drop_of_length_le (by simp; omega))
set_option maxHeartbeats 2000000 in
set_option maxRecDepth 100000 in
theorem refReceive_any (v x : Value) (e : EP) (b : List UInt8) (w : World) (he : EPAt w v e) (hx : InB w x b) (ht : e.Tame) (hb : b.length ≤ 1000000) :
    Calls Try.prog 30 #[v, x] w (RecvPost e b w) := by
  obtain ⟨y, rfl, hq⟩ := he
  obtain ⟨A, c, rfl, _⟩ := hq.form
  obtain ⟨B, cb, rfl, _, _⟩ := id hx
  have HQ := Lib.hid hq
  have HT := Lib.hid ht
  clear hq ht
  go_enter Try.func30, Try.ntmps30
  go_upto_region 1 with fail
  obtain ⟨W, hW, hE, hB, hZ⟩ : ∃ W, W = (w.alloc (.cells #[.int .i64 e.epoch, .int .i64 e.peer, .int .i64 e.acked, .int .i64 e.sent, .int .i64 e.got, .int .i64 e.timer, .slice A e.queue.length c, .bool e.owe] 50)).alloc (.cells #[.int .i64 0, .int .i64 0, .int .i64 0, .int .i64 0, .int .i64 0, .int .i64 0, .slice none 0 0, .bool false] 50) ∧ Ext w W ∧ W.heap[w.heap.size]? = some (.cells #[.int .i64 e.epoch, .int .i64 e.peer, .int .i64 e.acked, .int .i64 e.sent, .int .i64 e.got, .int .i64 e.timer, .slice A e.queue.length c, .bool e.owe] 50 (0, 0)) ∧ W.heap[w.heap.size + 1]? = some (.cells #[.int .i64 0, .int .i64 0, .int .i64 0, .int .i64 0, .int .i64 0, .int .i64 0, .slice none 0 0, .bool false] 50 (0, 0)) := ⟨_, rfl, ((Ext.refl w).alloc _).alloc _, ((Ext.refl _).alloc _).heap (heap_alloc_new w _), by have := heap_alloc_new (w.alloc (.cells #[.int .i64 e.epoch, .int .i64 e.peer, .int .i64 e.acked, .int .i64 e.sent, .int .i64 e.got, .int .i64 e.timer, .slice A e.queue.length c, .bool e.owe] 50)) (.cells #[.int .i64 0, .int .i64 0, .int .i64 0, .int .i64 0, .int .i64 0, .int .i64 0, .slice none 0 0, .bool false] 50); simpa using this⟩
  rw [← hW]
  clear hW
  go_wp2_with fail
  refine (refDecode_any _ b W (hx.ext hE) (by omega)).mono ?_
  rintro en w3 ⟨pv, p, er, rfl, hD, ⟨yp, rfl, hpo⟩, hx3⟩
  obtain ⟨Ap, cp, rfl, _, _⟩ := hpo.inV
  have HD := Lib.hid hD
  clear hD
  have hP3 := heap_alloc_new w3 (.cells #[.int .i64 0, .int .i64 0, .int .i64 0, .int .i64 0, .int .i64 0, .slice none 0 0] 47)
  have hst := run_storeAt_blk (P := Try.prog) (w3.alloc (.cells #[.int .i64 0, .int .i64 0, .int .i64 0, .int .i64 0, .int .i64 0, .slice none 0 0] 47)) w3.heap.size 47 47 _ #[.int .i64 p.kind, .int .i64 p.src, .int .i64 p.dst, .int .i64 p.seq, .int .i64 p.ack, .slice Ap p.body.length cp] hP3 pk_size rfl (by simp [Value.oneCell'])
  go_upto_region 2 with first | refine wpList_store_run rfl 47 (.tmp 7) (.tmp 15) rfl _ _ _ rfl rfl hst ?_
  have hP4 := setRow_heap (w3.alloc (.cells #[.int .i64 0, .int .i64 0, .int .i64 0, .int .i64 0, .int .i64 0, .slice none 0 0] 47)) w3.heap.size _ #[.int .i64 p.kind, .int .i64 p.src, .int .i64 p.dst, .int .i64 p.seq, .int .i64 p.ack, .slice Ap p.body.length cp] _ _ hP3
  have hx34 := (((Ext.refl w3).alloc (.cells #[.int .i64 0, .int .i64 0, .int .i64 0, .int .i64 0, .int .i64 0, .slice none 0 0] 47)).grown (gsetRow (w3.alloc (.cells #[.int .i64 0, .int .i64 0, .int .i64 0, .int .i64 0, .int .i64 0, .slice none 0 0] 47)) w3.heap.size #[.int .i64 p.kind, .int .i64 p.src, .int .i64 p.dst, .int .i64 p.seq, .int .i64 p.ack, .slice Ap p.body.length cp]) (fun k e => by cases e; exact Nat.le_refl _))
  have hx4 := hx3.trans hx34
  have hpo4 := hpo.ext hx34
  have hlt2 := heap_lt hZ
  have hlt3 := hx3.size
  clear hst hP3 hx3 hpo hx34
  generalize (w3.alloc (.cells #[.int .i64 0, .int .i64 0, .int .i64 0, .int .i64 0, .int .i64 0, .slice none 0 0] 47)).setRow w3.heap.size #[.int .i64 p.kind, .int .i64 p.src, .int .i64 p.dst, .int .i64 p.seq, .int .i64 p.ack, .slice Ap p.body.length cp] = w4 at *
  have hgp : w.heap.size + 1 < w3.heap.size := Nat.lt_of_lt_of_le hlt2 hlt3
  clear hlt3
  generalize w3.heap.size = gp at *
  have hB4 := hx4.heap hB
  have hZ4 := hx4.heap hZ
  have hE4 := hE.trans hx4
  have hlt4 := heap_lt hZ4
  have hltp := heap_lt hP4
  have hR4 : RSr w4 w.heap.size e w4 := ⟨⟨_, hB4, QSt.of_in HQ.out hE4 (Nat.le_refl _)⟩, Kept.refl _ _ _⟩
  have HPB : Hid (∀ W', Kept w4.heap.size [w.heap.size, w.heap.size + 1] w4 W' → InB W' (.slice Ap p.body.length cp) p.body) := Lib.hid fun W' hk => (hk.ownV hpo4 (fun k hk' => ⟨hpo4.lt k hk', fun hm => by
    simp only [List.mem_cons, List.not_mem_nil, or_false] at hm
    rcases hm with rfl | rfl
    · exact hpo4.ne_blk hB4 (by decide) hk'
    · exact hpo4.ne_blk hZ4 (by decide) hk'⟩)).inV
  have HPK : Hid (∀ W', Kept w4.heap.size [w.heap.size] w4 W' → W'.heap[gp]? = some (.cells #[.int .i64 p.kind, .int .i64 p.src, .int .i64 p.dst, .int .i64 p.seq, .int .i64 p.ack, .slice Ap p.body.length cp] 47 (0, 0))) := Lib.hid fun W' hk => hk.heap hP4 hltp (by simp; omega)
  clear hlt2 hB hZ hE hpo4 hx4
  go_cut [25] (fun s wx => ∃ bd : Bool, s = .bool bd ∧ (bd = true ↔ er ≠ 0 ∨ p.src < e.peer) ∧ RSr w4 w.heap.size e wx)
  case first =>
    obtain ⟨q0, q1, q2, q3, q4, q5, q6, q7⟩ := blk8 hB4
    obtain ⟨p0, p1, p2, p3, p4, p5⟩ := blk6 hP4
    by_cases her : er = 0
    · have her' : (er != 0) = false := by simp [her]
      have HER := Lib.hid her
      clear her
      by_cases hs : p.src < e.peer
      · have hs' : decide (p.src < e.peer) = true := by simpa using hs
        go_wp2_with fail
        go_meet
        exact ⟨true, rfl, by simp [hs], hR4⟩
      · have hs' : decide (p.src < e.peer) = false := by simpa using hs
        go_wp2_with fail
        go_meet
        exact ⟨false, rfl, by simp [HER.out]; omega, hR4⟩
    · have her' : (er != 0) = true := by simp [her]
      go_wp2_with fail
      go_meet
      exact ⟨true, rfl, by simp [her], hR4⟩
  case rest =>
    clear hR4
    obtain ⟨bd, rfl, hbd, hR⟩ := hcut
    cases bd with
    | true =>
      have HBD := Lib.hid (hbd.1 rfl)
      clear hbd
      obtain ⟨Ay, cy, hep, _, HQS⟩ := hR.form
      have hk9 := hR.kept
      have hZ9 := hk9.heap hZ4 (by omega) (by simp)
      have hE9 := hk9.ext hE4 (by omega) (by simp)
      have hld := run_loadAt_blk (P := Try.prog) wc w.heap.size 50 50 _ (0, 0) _ hep Try.underlying50 rfl re_size
      have hst := run_storeAt_blk (P := Try.prog) wc (w.heap.size + 1) 50 50 _ #[.int .i64 (e).epoch, .int .i64 (e).peer, .int .i64 (e).acked, .int .i64 (e).sent, .int .i64 (e).got, .int .i64 (e).timer, .slice Ay (e).queue.length cy, .bool (e).owe] hZ9 re_size rfl (by simp [Value.oneCell'])
      go_wp2_with first | refine wpList_load_run rfl 50 (.tmp 2) rfl _ _ rfl hld ?_ | refine wpList_store_run rfl 50 (.tmp 4) (.tmp 26) rfl _ _ _ rfl rfl hst ?_
      have hZ10 := setRow_heap wc (w.heap.size + 1) _ #[.int .i64 (e).epoch, .int .i64 (e).peer, .int .i64 (e).acked, .int .i64 (e).sent, .int .i64 (e).got, .int .i64 (e).timer, .slice Ay (e).queue.length cy, .bool (e).owe] _ _ hZ9
      have hg10 := gsetRow wc (w.heap.size + 1) #[.int .i64 (e).epoch, .int .i64 (e).peer, .int .i64 (e).acked, .int .i64 (e).sent, .int .i64 (e).got, .int .i64 (e).timer, .slice Ay (e).queue.length cy, .bool (e).owe]
      have hE10 := hE9.grown hg10 (fun k e => by cases e; omega)
      have hk10 : Kept w4.heap.size [w.heap.size, w.heap.size + 1] w4 (wc.setRow (w.heap.size + 1) #[.int .i64 (e).epoch, .int .i64 (e).peer, .int .i64 (e).acked, .int .i64 (e).sent, .int .i64 (e).got, .int .i64 (e).timer, .slice Ay (e).queue.length cy, .bool (e).owe]) := hk9.two.trans (Kept.of_grown hg10 hk9.size (fun k e => by cases e; exact .inr (by simp)))
      have hQ10 := HQS.in_ (Kept.of_grown hg10 (Nat.le_refl _) (fun k e => by cases e; exact .inr (by simp)))
      have hM10 := QIn.nil (wc.setRow (w.heap.size + 1) #[.int .i64 (e).epoch, .int .i64 (e).peer, .int .i64 (e).acked, .int .i64 (e).sent, .int .i64 (e).got, .int .i64 (e).timer, .slice Ay (e).queue.length cy, .bool (e).owe])
      clear hst hld
      generalize wc.setRow (w.heap.size + 1) #[.int .i64 (e).epoch, .int .i64 (e).peer, .int .i64 (e).acked, .int .i64 (e).sent, .int .i64 (e).got, .int .i64 (e).timer, .slice Ay (e).queue.length cy, .bool (e).owe] = w10 at *
      obtain ⟨k0, k1, k2, k3, k4, k5, k6, k7⟩ := blk8 hZ10
      refine bodyPost_ret (v := .tuple #[.agg #[.int .i64 (e).epoch, .int .i64 (e).peer, .int .i64 (e).acked, .int .i64 (e).sent, .int .i64 (e).got, .int .i64 (e).timer, .slice Ay (e).queue.length cy, .bool (e).owe], .slice none 0 0, .bool false]) (by simp [results, Try.results30, go_sem, k0, k1, k2, k3, k4, k5, k6, k7]) rfl ?_
      exact ⟨_, _, e, [], false, p, er, rfl, HD.out, by rw [recvF, if_pos HBD.out], hQ10, hM10, hE10⟩
    | false =>
      have HBD : Hid (¬ (er ≠ 0 ∨ p.src < e.peer)) := Lib.hid (fun h => by have := hbd.2 h; cases this)
      clear hbd
      have her : er = 0 := Classical.byContradiction fun h => HBD.out (.inl h)
      have hnums := (DecIs.right (by have := HD.out; rwa [her] at this)).nums
      have HER := Lib.hid her
      have HNU := Lib.hid hnums
      clear her hnums
      obtain ⟨Ay, cy, hep, _, HQS⟩ := hR.form
      have HQS' := Lib.hid HQS
      clear HQS
      obtain ⟨q0, q1, q2, q3, q4, q5, q6, q7⟩ := blk8 hep
      obtain ⟨p0, p1, p2, p3, p4, p5⟩ := blk6 (HPK.out _ hR.kept)
      go_upto_if 31 with fail
      go_cut [9] (fun s wx => ∃ e1 rs, s = .bool rs ∧ (e1, rs) = recv1 e p ∧ RSr w4 w.heap.size e1 wx)
      case first =>
        have f0 := blk_free hep 0
        have f1 := blk_free hep 1
        have f2 := blk_free hep 2
        have f3 := blk_free hep 3
        have f4 := blk_free hep 4
        have f5 := blk_free hep 5
        have f6 := blk_free hep 6
        have hlt6 := heap_lt hep
        by_cases hs : e.peer < p.src
        · have hs' : decide (e.peer < p.src) = true := by simpa using hs
          by_cases h0 : e.peer = 0
          · have h0' : (e.peer != 0) = false := by simp [h0]
            have H0 := Lib.hid h0
            clear h0
            go_wp2_with fail
            go_meet
            refine ⟨⟨e.epoch, p.src, 0, 0, 0, 0, e.queue, e.owe⟩, false, rfl, by rw [recv1, if_pos (by omega), if_pos H0.out]; simp [H0.out], ⟨_, blk_set (blk_set (blk_set (blk_set (blk_set hep 1 (.int .i64 p.src)) 2 (.int .i64 0)) 3 (.int .i64 0)) 4 (.int .i64 0)) 5 (.int .i64 0), ((((HQS'.out.mono (kput _ _ 1 _)).mono (kput _ _ 2 _)).mono (kput _ _ 3 _)).mono (kput _ _ 4 _)).mono (kput _ _ 5 _)⟩, ((((hR.kept.put 1 _).put 2 _).put 3 _).put 4 _).put 5 _⟩
          · have h0' : (e.peer != 0) = true := by simp [h0]
            have H0 := Lib.hid h0
            clear h0
            go_wp2_with fail
            go_meet
            refine ⟨⟨e.epoch, p.src, 0, 0, 0, 0, [], e.owe⟩, true, rfl, by rw [recv1, if_pos (by omega), if_neg H0.out]; simp [H0.out], ⟨_, blk_set (blk_set (blk_set (blk_set (blk_set (blk_set hep 6 (.slice none 0 0)) 1 (.int .i64 p.src)) 2 (.int .i64 0)) 3 (.int .i64 0)) 4 (.int .i64 0)) 5 (.int .i64 0), QSt.nil _ _⟩, (((((hR.kept.put 6 _).put 1 _).put 2 _).put 3 _).put 4 _).put 5 _⟩
        · have hs' : decide (e.peer < p.src) = false := by simpa using hs
          go_wp2_with fail
          go_meet
          exact ⟨e, false, rfl, by rw [recv1, if_neg (by omega)], hR⟩
      case rest =>
        clear hR hep HQS' q0 q1 q2 q3 q4 q5 q6 q7 p0 p1 p2 p3 p4 p5
        obtain ⟨e1, rs, rfl, hr1, hR⟩ := hcut
        have hm1 : e1.epoch = e.epoch ∧ tame e1.acked ∧ tame e1.sent ∧ tame e1.got ∧ e1.queue.length ≤ 1000 := recv1_tame HT.out hr1
        have HR1 := Lib.hid hr1
        clear hr1
        obtain ⟨hm1, hm2, hm3, hm4, hm5⟩ := hm1
        have HM2 := Lib.hid hm2
        have HM3 := Lib.hid hm3
        have HM4 := Lib.hid hm4
        clear hm2 hm3 hm4
        by_cases hd : p.dst = e.epoch
        · have hd' : (p.dst != e.epoch) = false := by simp [hd]
          have HDD := Lib.hid hd
          clear hd
          obtain ⟨Ay, cy, hep, hcy, HQS⟩ := hR.form
          rw [hm1] at hep
          have HQS' := Lib.hid HQS
          clear HQS
          have hep0 := hep
          obtain ⟨q0, q1, q2, q3, q4, q5, q6, q7⟩ := blk8 hep
          obtain ⟨p0, p1, p2, p3, p4, p5⟩ := blk6 (HPK.out _ hR.kept)
          have hwr : IntKind.i64.wrap (e1.acked + (e1.queue.length : Int)) = e1.acked + e1.queue.length := by have h1 := HM2.out; have h2 := HNU.out; unfold tame at h1; rw [IntKind.wrap_i64]; omega
          go_upto_region 14 with fail
          go_cut [9, 67] (fun s x wx => s = .bool rs ∧ x = .bool (decide (e1.acked < p.ack ∧ p.ack ≤ e1.acked + e1.queue.length)) ∧ wc = wx)
          case first =>
            by_cases t1 : e1.acked < p.ack
            · have t1' : decide (e1.acked < p.ack) = true := by simpa using t1
              by_cases t2 : p.ack ≤ e1.acked + e1.queue.length
              · have t2' : decide (p.ack ≤ e1.acked + (e1.queue.length : Int)) = true := by simpa using t2
                have HG : Hid (decide (e1.acked < p.ack ∧ p.ack ≤ e1.acked + e1.queue.length) = true) := Lib.hid (by simp; omega)
                go_wp2_with fail
                go_meet
                exact ⟨rfl, by rw [HG.out], rfl⟩
              · have t2' : decide (p.ack ≤ e1.acked + (e1.queue.length : Int)) = false := by simpa using t2
                have HG : Hid (decide (e1.acked < p.ack ∧ p.ack ≤ e1.acked + e1.queue.length) = false) := Lib.hid (by simp; omega)
                go_wp2_with fail
                go_meet
                exact ⟨rfl, by rw [HG.out], rfl⟩
            · have t1' : decide (e1.acked < p.ack) = false := by simpa using t1
              have HG : Hid (decide (e1.acked < p.ack ∧ p.ack ≤ e1.acked + e1.queue.length) = false) := Lib.hid (by simp; omega)
              go_wp2_with fail
              go_meet
              exact ⟨rfl, by rw [HG.out], rfl⟩
          case rest =>
            obtain ⟨rfl, rfl, rfl⟩ := hcut
            go_upto_if 67 with fail
            go_cut [9] (fun s wx => s = .bool rs ∧ RSr w4 w.heap.size (recv2 e1 p) wx)
            case first =>
              by_cases ha : e1.acked < p.ack ∧ p.ack ≤ e1.acked + e1.queue.length
              · rw [decide_eq_true ha]
                obtain ⟨n, hn⟩ : ∃ n : Nat, p.ack - e1.acked = n := ⟨(p.ack - e1.acked).toNat, by omega⟩
                obtain ⟨zs, hz1, hz2⟩ := HQS'.out
                have hzl : zs.length = e1.queue.length := by rw [← hz1]; simp
                obtain ⟨A', c', hsl, hsq⟩ := InV_suf Ay cy n e1.queue.length (by omega) hcy
                rw [← hn] at hsl
                have H2 : Hid (recv2 e1 p = ⟨e1.epoch, e1.peer, p.ack, max e1.sent p.ack, e1.got, e1.timer, e1.queue.drop n, e1.owe⟩) := Lib.hid (by rw [recv2, if_pos ha, show (p.ack - e1.acked).toNat = n by omega])
                have hwr2 : IntKind.i64.wrap (p.ack - e1.acked) = p.ack - e1.acked := by have h1 := HM2.out; have h2 := HNU.out; unfold tame at h1; rw [IntKind.wrap_i64]; omega
                have hX1 := (Ext.refl wc).alloc (.cells #[] 32)
                have hin := hsq _ zs hzl (hz2 _ (Kept.of_ext hX1 (Nat.le_refl _))).1
                have HZ1 := Lib.hid hz1
                have HZ2 := Lib.hid hz2
                have hzl2 : zs.length ≤ 1000 := by omega
                have hZc := hR.kept.heap hZ4 (by omega) (by simp)
                have hltc := heap_lt hep0
                have hltd := heap_lt (HPK.out _ hR.kept)
                clear ha hn hsq hz1 hz2 hzl
                go_wp2_with (at_builtin; go_must (refine wpList_appendV elem_bs (fun _ => rfl) rfl (.tmp 68) (.tmp 76) rfl wc.heap.size _ [] rfl (ownV_empty wc 32) _ (zs.drop n) rfl hin (by simp; omega) (by omega) hX1.size (Hold.out ?_)))
                refine Hold.mk fun v2 w2 ho2 hg2 => ?_
                have hX2 : Ext wc w2 := hg2.ext hX1 (ownV_empty (f := bodyV) wc 32).ge
                have ho3 : OwnV bodyV 32 wc.heap.size w2 v2 (zs.drop n) := by simpa using ho2
                obtain ⟨A3, c3, hv3, _, _⟩ := ho3.inV
                rw [List.length_drop] at hv3
                subst hv3
                have hep2 := hX2.heap hep0
                have hZ2 := hX2.heap hZc
                have hQ2 : QSt w.heap.size w2 (.slice A3 (zs.length - n) c3) (e1.queue.drop n) := ⟨zs.drop n, by rw [List.map_drop, HZ1.out], fun W' hk => ⟨(hk.ownV ho3 (fun k hk' => ⟨ho3.lt k hk', fun hm => by
                  simp only [List.mem_cons, List.not_mem_nil, or_false] at hm
                  rcases hm with rfl | rfl
                  · exact ho3.ne_blk hep2 (by decide) hk'
                  · exact ho3.ne_blk hZ2 (by decide) hk'⟩)).inV, fun z hz => (HZ2.out W' ((Kept.of_ext hX2 (Nat.le_refl _)).trans (hk.low hX2.size))).2 z (List.mem_of_mem_drop hz)⟩⟩
                have HQ2 := Lib.hid hQ2
                have hk2 : Kept w4.heap.size [w.heap.size] w4 w2 := hR.kept.trans (Kept.of_ext hX2 hR.kept.size)
                clear hQ2 ho2 ho3 hg2 hX1 hZ2 hZc hin HZ2 hX2 q0 q1 q2 q3 q4 q5 q6 q7 p0 p1 p2 p3 p4 p5 hsl hzl2
                obtain ⟨q0, q1, q2, q3, q4, q5, q6, q7⟩ := blk8 hep2
                obtain ⟨p0, p1, p2, p3, p4, p5⟩ := blk6 (HPK.out _ hk2)
                have f2 := blk_free hep2 2
                have f3 := blk_free hep2 3
                have f6 := blk_free hep2 6
                have hlt6 := heap_lt hep2
                by_cases hmx : e1.sent < p.ack
                · have HMX : Hid (max e1.sent p.ack = p.ack) := Lib.hid (by omega)
                  go_wp2_with fail
                  go_meet
                  refine ⟨rfl, ?_⟩
                  rw [H2.out, HMX.out]
                  exact ⟨⟨_, by rw [hm1]; exact blk_set (blk_set (blk_set hep2 6 (.slice A3 (zs.length - n) c3)) 2 (.int .i64 p.ack)) 3 (.int .i64 p.ack), ((HQ2.out.mono (kput _ _ 6 _)).mono (kput _ _ 2 _)).mono (kput _ _ 3 _)⟩, ((hk2.put 6 _).put 2 _).put 3 _⟩
                · have HMX : Hid (max e1.sent p.ack = e1.sent) := Lib.hid (by omega)
                  go_wp2_with fail
                  go_meet
                  refine ⟨rfl, ?_⟩
                  rw [H2.out, HMX.out]
                  exact ⟨⟨_, by rw [hm1]; exact blk_set (blk_set (blk_set hep2 6 (.slice A3 (zs.length - n) c3)) 2 (.int .i64 p.ack)) 3 (.int .i64 e1.sent), ((HQ2.out.mono (kput _ _ 6 _)).mono (kput _ _ 2 _)).mono (kput _ _ 3 _)⟩, ((hk2.put 6 _).put 2 _).put 3 _⟩
              · rw [decide_eq_false ha]
                have H2 : Hid (recv2 e1 p = e1) := Lib.hid (by rw [recv2, if_neg ha])
                clear ha
                go_wp2_with fail
                go_meet
                exact ⟨rfl, by rw [H2.out]; exact hR⟩
            case rest =>
              have hgt : tame (recv2 e1 p).got := by
                have := HM4.out
                unfold recv2
                split <;> exact this
              clear hR hep hep0 HQS' q0 q1 q2 q3 q4 q5 q6 q7 p0 p1 p2 p3 p4 p5
              obtain ⟨rfl, hR⟩ := hcut
              obtain ⟨e2, he2⟩ : ∃ e2, e2 = recv2 e1 p := ⟨_, rfl⟩
              rw [← he2] at hR hgt
              have HE2 := Lib.hid he2
              have HGT := Lib.hid hgt
              clear he2 hgt
              obtain ⟨Ay, cy, hep, hcy, HQS⟩ := hR.form
              have HQS' := Lib.hid HQS
              clear HQS
              obtain ⟨q0, q1, q2, q3, q4, q5, q6, q7⟩ := blk8 hep
              have hP := HPK.out _ hR.kept
              obtain ⟨p0, p1, p2, p3, p4, p5⟩ := blk6 hP
              have hwr : IntKind.i64.wrap (e2.got + 1) = e2.got + 1 := by have h1 := HGT.out; unfold tame at h1; rw [IntKind.wrap_i64]; omega
              have f4 := blk_free hep 4
              have f7 := blk_free hep 7
              have hlt6 := heap_lt hep
              go_upto_if 90 with fail
              go_cut [9, 11] (fun s m wx => s = .bool rs ∧ RSr w4 w.heap.size (recv3a e2 p).1 wx ∧ MSr w4 w.heap.size wx m (recv3a e2 p).2)
              case first =>
                by_cases k2 : p.kind = 2
                · have k2' : (p.kind == 2) = true := by simp [k2]
                  have K2 := Lib.hid k2
                  clear k2
                  by_cases hs : p.seq = e2.got + 1
                  · have hs' : (p.seq == e2.got + 1) = true := by simp [hs]
                    have H3 : Hid (recv3a e2 p = (⟨e2.epoch, e2.peer, e2.acked, e2.sent, e2.got + 1, e2.timer, e2.queue, true⟩, [p.body])) := Lib.hid (by rw [recv3a, if_pos K2.out, recv3, if_pos K2.out, if_pos hs])
                    clear hs
                    obtain ⟨z, hzb, hzv⟩ : ∃ z : Body, z.b = p.body ∧ bodyV z = .slice Ap p.body.length cp := ⟨⟨Ap, p.body.length, cp, p.body⟩, rfl, rfl⟩
                    have hA6 := (Ext.refl wc).alloc (.cells #[.slice Ap p.body.length cp] 32)
                    have hn6 := OwnV_new (f := bodyV) wc z 32
                    rw [hzv] at hn6
                    have hs6 := Nat.le_trans hR.kept.size hA6.size
                    go_wp2_with (at_builtin; go_must (refine wpList_appendV elem_bs (fun _ => rfl) rfl (.tmp 97) (.tmp 100) rfl w4.heap.size _ [] rfl (OwnV.nil _) _ [z] rfl hn6.inV (by simp) (by omega) hs6 (Hold.out ?_)))
                    refine Hold.mk fun v7 w7 ho7 hg7 => ?_
                    have hX7 : Ext wc w7 := hA6.trans (hg7.ext (Ext.refl _) (by simp [Value.ownBlock]))
                    have hm7 : MSr w4 w.heap.size w7 v7 [p.body] := ⟨[z], by rw [List.map_cons, List.map_nil, hzb], by simpa using ho7, fun z' hz' W' hk' => by
                      simp only [List.mem_singleton] at hz'
                      subst hz'
                      rw [hzb, hzv]
                      exact HPB.out W' hk'⟩
                    have hR7 := hR.ext hX7
                    have hep7 := hX7.heap hep
                    have hP7 := hX7.heap hP
                    have HQ7 := Lib.hid (HQS'.out.mono (Kept.of_ext hX7 (Nat.le_refl _)))
                    clear hg7 ho7 hA6 hn6 hs6 hX7 hzb hzv hep hP hR q0 q1 q2 q3 q4 q5 q6 q7 p0 p1 p2 p3 p4 p5 f4 f7 hlt6
                    obtain ⟨q0, q1, q2, q3, q4, q5, q6, q7⟩ := blk8 hep7
                    have f4 := blk_free hep7 4
                    have f7 := blk_free hep7 7
                    have hlt6 := heap_lt hep7
                    go_wp2_with fail
                    go_meet
                    rw [H3.out]
                    have hg8 := gset w7 ⟨w.heap.size, 4, none⟩ (.int .i64 (e2.got + 1))
                    have hep8 := blk_set hep7 4 (.int .i64 (e2.got + 1))
                    exact ⟨rfl, ⟨⟨_, blk_set hep8 7 (.bool true), (HQ7.out.mono (kput _ _ 4 _)).mono (kput _ _ 7 _)⟩, (hR7.kept.put 4 _).put 7 _⟩, (hm7.far hg8 hep7 (by decide)).far (gset _ ⟨w.heap.size, 7, none⟩ (.bool true)) hep8 (by decide)⟩
                  · have hs' : (p.seq == e2.got + 1) = false := by simp [hs]
                    have H3 : Hid (recv3a e2 p = (e2.owes, [])) := Lib.hid (by rw [recv3a, if_pos K2.out, recv3, if_pos K2.out, if_neg hs])
                    clear hs
                    go_wp2_with fail
                    go_meet
                    rw [H3.out]
                    exact ⟨rfl, ⟨⟨_, by unfold EP.owes; exact blk_set hep 7 (.bool true), HQS'.out.mono (kput _ _ 7 _)⟩, hR.kept.put 7 _⟩, MSr.nil _ _ _⟩
                · have k2' : (p.kind == 2) = false := by simp [k2]
                  have H3 : Hid (recv3a e2 p = (e2, [])) := Lib.hid (by rw [recv3a, if_neg k2])
                  clear k2
                  go_wp2_with fail
                  go_meet
                  rw [H3.out]
                  exact ⟨rfl, hR, MSr.nil _ _ _⟩
              case rest =>
                clear hR hep HQS' q0 q1 q2 q3 q4 q5 q6 q7 p0 p1 p2 p3 p4 p5 hP f4 f7 hlt6
                obtain ⟨rfl, hR, hqm⟩ := hcut
                have HRF : Hid (recvF e p er = ((recv3 e2 p).1, (recv3 e2 p).2, rs)) := Lib.hid (by
                  have e1p : e1 = (recv1 e p).1 := by rw [← HR1.out]
                  have e2p : rs = (recv1 e p).2 := by rw [← HR1.out]
                  rw [recvF, if_neg HBD.out, if_neg (fun h => h HDD.out), ← e1p, ← e2p, HE2.out])
                have HR3 := Lib.hid (recv3_eq e2 p)
                generalize recv3 e2 p = r3 at *
                generalize (recv3a e2 p) = ra at *
                obtain ⟨ea, ma⟩ := ra
                simp only at hR hqm
                obtain ⟨Am, cm, rfl, _⟩ := (hqm.in_ hR.kept.two).form
                obtain ⟨Ay, cy, hep, hcy, HQS⟩ := hR.form
                have HQS' := Lib.hid HQS
                clear HQS
                obtain ⟨q0, q1, q2, q3, q4, q5, q6, q7⟩ := blk8 hep
                obtain ⟨p0, p1, p2, p3, p4, p5⟩ := blk6 (HPK.out _ hR.kept)
                have f7 := blk_free hep 7
                have hlt6 := heap_lt hep
                go_upto_if 109 with fail
                go_cut [9, 11] (fun s m wx => s = .bool rs ∧ ∃ e3, r3 = (e3, ma) ∧ m = .slice Am ma.length cm ∧ RSr w4 w.heap.size e3 wx ∧ MSr w4 w.heap.size wx (.slice Am ma.length cm) ma)
                case first =>
                  by_cases k1 : p.kind = 1
                  · have k1' : (p.kind == 1) = true := by simp [k1]
                    have H3 : Hid (r3 = (ea.owes, ma)) := Lib.hid (by rw [HR3.out, if_pos k1])
                    clear k1
                    go_wp2_with fail
                    go_meet
                    exact ⟨rfl, ea.owes, H3.out, rfl, ⟨⟨_, by unfold EP.owes; exact blk_set hep 7 (.bool true), HQS'.out.mono (kput _ _ 7 _)⟩, hR.kept.put 7 _⟩, hqm.far (gset _ ⟨w.heap.size, 7, none⟩ (.bool true)) hep (by decide)⟩
                  · have k1' : (p.kind == 1) = false := by simp [k1]
                    have H3 : Hid (r3 = (ea, ma)) := Lib.hid (by rw [HR3.out, if_neg k1])
                    clear k1
                    go_wp2_with fail
                    go_meet
                    exact ⟨rfl, ea, H3.out, rfl, hR, hqm⟩
                case rest =>
                  clear hR hep HQS' q0 q1 q2 q3 q4 q5 q6 q7 p0 p1 p2 p3 p4 p5 f7 hlt6 hqm HR3
                  obtain ⟨rfl, e3, h3, rfl, hR, hqm⟩ := hcut
                  have H3 := Lib.hid h3
                  clear h3
                  obtain ⟨Ay, cy, hep, _, HQS⟩ := hR.form
                  have hk9 := hR.kept
                  have hZ9 := hk9.heap hZ4 (by omega) (by simp)
                  have hE9 := hk9.ext hE4 (by omega) (by simp)
                  have hld := run_loadAt_blk (P := Try.prog) wc w.heap.size 50 50 _ (0, 0) _ hep Try.underlying50 rfl re_size
                  have hst := run_storeAt_blk (P := Try.prog) wc (w.heap.size + 1) 50 50 _ #[.int .i64 (e3).epoch, .int .i64 (e3).peer, .int .i64 (e3).acked, .int .i64 (e3).sent, .int .i64 (e3).got, .int .i64 (e3).timer, .slice Ay (e3).queue.length cy, .bool (e3).owe] hZ9 re_size rfl (by simp [Value.oneCell'])
                  go_wp2_with first | refine wpList_load_run rfl 50 (.tmp 2) rfl _ _ rfl hld ?_ | refine wpList_store_run rfl 50 (.tmp 4) (.tmp 111) rfl _ _ _ rfl rfl hst ?_
                  have hZ10 := setRow_heap wc (w.heap.size + 1) _ #[.int .i64 (e3).epoch, .int .i64 (e3).peer, .int .i64 (e3).acked, .int .i64 (e3).sent, .int .i64 (e3).got, .int .i64 (e3).timer, .slice Ay (e3).queue.length cy, .bool (e3).owe] _ _ hZ9
                  have hg10 := gsetRow wc (w.heap.size + 1) #[.int .i64 (e3).epoch, .int .i64 (e3).peer, .int .i64 (e3).acked, .int .i64 (e3).sent, .int .i64 (e3).got, .int .i64 (e3).timer, .slice Ay (e3).queue.length cy, .bool (e3).owe]
                  have hE10 := hE9.grown hg10 (fun k e => by cases e; omega)
                  have hk10 : Kept w4.heap.size [w.heap.size, w.heap.size + 1] w4 (wc.setRow (w.heap.size + 1) #[.int .i64 (e3).epoch, .int .i64 (e3).peer, .int .i64 (e3).acked, .int .i64 (e3).sent, .int .i64 (e3).got, .int .i64 (e3).timer, .slice Ay (e3).queue.length cy, .bool (e3).owe]) := hk9.two.trans (Kept.of_grown hg10 hk9.size (fun k e => by cases e; exact .inr (by simp)))
                  have hQ10 := HQS.in_ (Kept.of_grown hg10 (Nat.le_refl _) (fun k e => by cases e; exact .inr (by simp)))
                  have hM10 := (hqm.far hg10 hZ9 (by decide)).in_ hk10
                  clear hst hld
                  generalize wc.setRow (w.heap.size + 1) #[.int .i64 (e3).epoch, .int .i64 (e3).peer, .int .i64 (e3).acked, .int .i64 (e3).sent, .int .i64 (e3).got, .int .i64 (e3).timer, .slice Ay (e3).queue.length cy, .bool (e3).owe] = w10 at *
                  obtain ⟨k0, k1, k2, k3, k4, k5, k6, k7⟩ := blk8 hZ10
                  refine bodyPost_ret (v := .tuple #[.agg #[.int .i64 (e3).epoch, .int .i64 (e3).peer, .int .i64 (e3).acked, .int .i64 (e3).sent, .int .i64 (e3).got, .int .i64 (e3).timer, .slice Ay (e3).queue.length cy, .bool (e3).owe], .slice Am ma.length cm, .bool rs]) (by simp [results, Try.results30, go_sem, k0, k1, k2, k3, k4, k5, k6, k7]) rfl ?_
                  exact ⟨_, _, e3, ma, rs, p, er, rfl, HD.out, by rw [HRF.out, H3.out], hQ10, hM10, hE10⟩
        · have hd' : (p.dst != e.epoch) = true := by simp [hd]
          have HDD := Lib.hid hd
          clear hd
          obtain ⟨Ay, cy, hep, _, HQS⟩ := hR.form
          rw [hm1] at hep
          obtain ⟨q0, q1, q2, q3, q4, q5, q6, q7⟩ := blk8 hep
          obtain ⟨p0, p1, p2, p3, p4, p5⟩ := blk6 (HPK.out _ hR.kept)
          have f7 := blk_free hep 7
          have hlt6 := heap_lt hep
          have HQS' := Lib.hid HQS
          clear HQS
          go_upto_region 12 with fail
          have hR2 : RSr w4 w.heap.size e1.owes (wc.setCell ⟨w.heap.size, 7, none⟩ (.bool true)) := ⟨⟨_, by rw [EP.owes, hm1]; exact blk_set hep 7 (.bool true), HQS'.out.mono (kput _ _ 7 _)⟩, hR.kept.put 7 _⟩
          clear hR q0 q1 q2 q3 q4 q5 q6 q7 f7 hlt6 hep HQS' p0 p1 p2 p3 p4 p5
          generalize wc.setCell ⟨w.heap.size, 7, none⟩ (.bool true) = wd at *
          have hR := hR2
          clear hR2
          obtain ⟨Ay, cy, hep, _, HQS⟩ := hR.form
          have hk9 := hR.kept
          have hZ9 := hk9.heap hZ4 (by omega) (by simp)
          have hE9 := hk9.ext hE4 (by omega) (by simp)
          have hld := run_loadAt_blk (P := Try.prog) wd w.heap.size 50 50 _ (0, 0) _ hep Try.underlying50 rfl re_size
          have hst := run_storeAt_blk (P := Try.prog) wd (w.heap.size + 1) 50 50 _ #[.int .i64 (e1.owes).epoch, .int .i64 (e1.owes).peer, .int .i64 (e1.owes).acked, .int .i64 (e1.owes).sent, .int .i64 (e1.owes).got, .int .i64 (e1.owes).timer, .slice Ay (e1.owes).queue.length cy, .bool (e1.owes).owe] hZ9 re_size rfl (by simp [Value.oneCell'])
          go_wp2_with first | refine wpList_load_run rfl 50 (.tmp 2) rfl _ _ rfl hld ?_ | refine wpList_store_run rfl 50 (.tmp 4) (.tmp 49) rfl _ _ _ rfl rfl hst ?_
          have hZ10 := setRow_heap wd (w.heap.size + 1) _ #[.int .i64 (e1.owes).epoch, .int .i64 (e1.owes).peer, .int .i64 (e1.owes).acked, .int .i64 (e1.owes).sent, .int .i64 (e1.owes).got, .int .i64 (e1.owes).timer, .slice Ay (e1.owes).queue.length cy, .bool (e1.owes).owe] _ _ hZ9
          have hg10 := gsetRow wd (w.heap.size + 1) #[.int .i64 (e1.owes).epoch, .int .i64 (e1.owes).peer, .int .i64 (e1.owes).acked, .int .i64 (e1.owes).sent, .int .i64 (e1.owes).got, .int .i64 (e1.owes).timer, .slice Ay (e1.owes).queue.length cy, .bool (e1.owes).owe]
          have hE10 := hE9.grown hg10 (fun k e => by cases e; omega)
          have hk10 : Kept w4.heap.size [w.heap.size, w.heap.size + 1] w4 (wd.setRow (w.heap.size + 1) #[.int .i64 (e1.owes).epoch, .int .i64 (e1.owes).peer, .int .i64 (e1.owes).acked, .int .i64 (e1.owes).sent, .int .i64 (e1.owes).got, .int .i64 (e1.owes).timer, .slice Ay (e1.owes).queue.length cy, .bool (e1.owes).owe]) := hk9.two.trans (Kept.of_grown hg10 hk9.size (fun k e => by cases e; exact .inr (by simp)))
          have hQ10 := HQS.in_ (Kept.of_grown hg10 (Nat.le_refl _) (fun k e => by cases e; exact .inr (by simp)))
          have hM10 := QIn.nil (wd.setRow (w.heap.size + 1) #[.int .i64 (e1.owes).epoch, .int .i64 (e1.owes).peer, .int .i64 (e1.owes).acked, .int .i64 (e1.owes).sent, .int .i64 (e1.owes).got, .int .i64 (e1.owes).timer, .slice Ay (e1.owes).queue.length cy, .bool (e1.owes).owe])
          clear hst hld
          generalize wd.setRow (w.heap.size + 1) #[.int .i64 (e1.owes).epoch, .int .i64 (e1.owes).peer, .int .i64 (e1.owes).acked, .int .i64 (e1.owes).sent, .int .i64 (e1.owes).got, .int .i64 (e1.owes).timer, .slice Ay (e1.owes).queue.length cy, .bool (e1.owes).owe] = w10 at *
          obtain ⟨k0, k1, k2, k3, k4, k5, k6, k7⟩ := blk8 hZ10
          refine bodyPost_ret (v := .tuple #[.agg #[.int .i64 (e1.owes).epoch, .int .i64 (e1.owes).peer, .int .i64 (e1.owes).acked, .int .i64 (e1.owes).sent, .int .i64 (e1.owes).got, .int .i64 (e1.owes).timer, .slice Ay (e1.owes).queue.length cy, .bool (e1.owes).owe], .slice none 0 0, .bool rs]) (by simp [results, Try.results30, go_sem, k0, k1, k2, k3, k4, k5, k6, k7]) rfl ?_
          exact ⟨_, _, e1.owes, [], rs, p, er, rfl, HD.out, by rw [recvF, if_neg HBD.out, if_pos HDD.out, ← HR1.out], hQ10, hM10, hE10⟩
end Go.Proofs.Ytpngmnfjefplkaa
