/- Poll of the program. -/
import Derived.Test.YtnobepobalpccaaTraE
namespace Go.Proofs.Ytnobepobalpccaa
open Go.RowKit
set_option linter.unusedVariables false

def tame (n : Int) : Prop := -1000000 ≤ n ∧ n ≤ 1000000
structure EP.Tame (e : EP) : Prop where
  epoch : tame e.epoch
  peer : tame e.peer
  acked : tame e.acked
  sent : tame e.sent
  got : tame e.got
  timer : tame e.timer
  queue : e.queue.length ≤ 1000
  bodies : ∀ b ∈ e.queue, b.length ≤ 1000000
theorem EP.Tame.mid {e : EP} (h : e.Tame) : e.Mid := ⟨by have := h.queue; omega, h.bodies⟩
def EP.quiet (e : EP) (out : List (List UInt8)) : EP := ⟨e.epoch, e.peer, e.acked, e.sent, e.got, e.timer, e.queue, if out.length = 0 then e.owe else false⟩
/-- the k-th message that is sent at a tick, from s0 on -/
def dataP (e : EP) (s0 : Int) (k : Nat) : Pkt := ⟨2, e.epoch, e.peer, s0 + k + 1, e.got, (e.queue[(s0 - e.acked).toNat + k]?).getD []⟩
noncomputable def outsL (e : EP) (s0 : Int) : Nat → List (List UInt8)
  | 0 => []
  | k + 1 => sendF (outsL e s0 k) (dataP e s0 k)
theorem outsL_len (e : EP) (s0 : Int) (k : Nat) : (outsL e s0 k).length ≤ k := by
  induction k with
  | zero => simp [outsL]
  | succ k ih =>
    have := sendF_len (outsL e s0 k) (dataP e s0 k)
    rw [outsL]; omega
def EP.at_ (e : EP) (now s0 : Int) (k : Nat) : EP := ⟨e.epoch, e.peer, e.acked, s0 + k, e.got, if k = 0 then e.timer else now + 8, e.queue, e.owe⟩
def EP.first (e : EP) (now : Int) : Int := if e.acked < e.sent ∧ e.timer ≤ now then e.acked else e.sent
/-- what Poll makes ahead of its last test -/
noncomputable def pollM (e : EP) (now : Int) : EP × List (List UInt8) :=
  if e.peer = 0 then
    if e.timer ≤ now then (⟨e.epoch, e.peer, e.acked, e.sent, e.got, now + 8, e.queue, e.owe⟩, sendF [] ⟨1, e.epoch, 0, 0, 0, []⟩) else (e, [])
  else
    (e.at_ now (e.first now) (min 4 e.queue.length - (e.first now - e.acked).toNat),
      if (outsL e (e.first now) (min 4 e.queue.length - (e.first now - e.acked).toNat)).length = 0 ∧ e.owe = true then sendF (outsL e (e.first now) (min 4 e.queue.length - (e.first now - e.acked).toNat)) ⟨3, e.epoch, e.peer, 0, e.got, []⟩
      else outsL e (e.first now) (min 4 e.queue.length - (e.first now - e.acked).toNat))
noncomputable def pollF (e : EP) (now : Int) : EP × List (List UInt8) := ((pollM e now).1.quiet (pollM e now).2, (pollM e now).2)
def PollPostO (e : EP) (now : Int) (w : World) (en : Ending) (w' : World) : Prop := ∃ y yo e' out, en = .returned (.tuple #[.agg #[.int .i64 e'.epoch, .int .i64 e'.peer, .int .i64 e'.acked, .int .i64 e'.sent, .int .i64 e'.got, .int .i64 e'.timer, y, .bool e'.owe], yo]) ∧ (e', out) = pollF e now ∧ QOwn w.heap.size w' y e'.queue ∧ QOwn w.heap.size w' yo out ∧ Ext w w'
def PollPost (e : EP) (now : Int) (w : World) (en : Ending) (w' : World) : Prop := ∃ y yo e' out, en = .returned (.tuple #[.agg #[.int .i64 e'.epoch, .int .i64 e'.peer, .int .i64 e'.acked, .int .i64 e'.sent, .int .i64 e'.got, .int .i64 e'.timer, y, .bool e'.owe], yo]) ∧ (e', out) = pollF e now ∧ QIn w' y e'.queue ∧ QIn w' yo out ∧ Ext w w'
/-- where Poll stands: the endpoint's variable h, the datagrams' variable g -/
structure PollSt (w5 : World) (base h g : Nat) (yq : Value) (e : EP) (out : List (List UInt8)) (W : World) : Prop where
  ep : W.heap[h]? = some (.cells #[.int .i64 e.epoch, .int .i64 e.peer, .int .i64 e.acked, .int .i64 e.sent, .int .i64 e.got, .int .i64 e.timer, yq, .bool e.owe] 26 (0, 0))
  kept : Kept base [h, g] w5 W
  size : base ≤ W.heap.size
  outs : ∃ yo, W.heap[g]? = some (.cells #[yo] 24 (0, 0)) ∧ QOwn base W yo out
theorem at_zero (e : EP) (now s : Int) : e.at_ now s 0 = ⟨e.epoch, e.peer, e.acked, s, e.got, e.timer, e.queue, e.owe⟩ := by simp [EP.at_]
def PollS (wa wb : World) (f : Nat → Bool) (W : World) : Prop := W = if f 2 = true then wb else wa
theorem exec_load {P : Program} {W : World} {e : Operand → Value} {op : Oper} (ty : TypeId) (x : Operand) (ho : op.op = .load ty x) (v u : Value) (hx : e x = v) (hr : (Instr.loadAt ty v).run P W = .ok u W) : (execOp e op).run P W = .ok (.value u) W := by
  unfold execOp
  simp only [ho, hx, Sem.run_bind, hr, Result.andThen_ok, Sem.run_pure]
theorem exec_store {P : Program} {W : World} {e : Operand → Value} {op : Oper} (ty : TypeId) (x y : Operand) (ho : op.op = .store ty x y) (v u : Value) (W'' : World) (hx : e x = v) (hy : e y = u) (hr : (Instr.storeAt ty v u).run P W = .ok () W'') : (execOp e op).run P W = .ok .skip W'' := by
  unfold execOp
  simp only [ho, hx, hy, Sem.run_bind, hr, Result.andThen_ok, Sem.run_pure]
theorem QOwn.keptK {b0 base : Nat} {xs : List Nat} {w W : World} {y : Value} {q : List (List UInt8)} (h : QOwn b0 w y q) (hk : Kept base xs w W) (hs : w.heap.size ≤ base) (hx : ∀ x ∈ xs, ∃ cs t fr, w.heap[x]? = some (.cells cs t fr) ∧ 32 ≠ t ∧ 5 ≠ t) : QOwn b0 W y q := by
  obtain ⟨zs, h1, h2, h3⟩ := h
  refine ⟨zs, h1, hk.ownV h2 (fun k hk' => ⟨Nat.lt_of_lt_of_le (h2.lt k hk') hs, fun hm => ?_⟩), fun z hz => hk.ownV (h3 z hz) (fun k hk' => ⟨Nat.lt_of_lt_of_le ((h3 z hz).lt k hk') hs, fun hm => ?_⟩)⟩
  · obtain ⟨cs, t, fr, hb, t1, _⟩ := hx k hm
    exact h2.ne_blk hb t1 hk'
  · obtain ⟨cs, t, fr, hb, _, t2⟩ := hx k hm
    exact (h3 z hz).ne_blk hb t2 hk'
/-- a message of the queue lies where it lay, whatever else is sent -/
theorem QOwn.keptAt {b0 base : Nat} {xs : List Nat} {w : World} {A : Option Addr} {n c : Nat} {q : List (List UInt8)} (h : QOwn b0 w (.slice A n c) q) (hs : w.heap.size ≤ base) (hx : ∀ x ∈ xs, ∃ cs t fr, w.heap[x]? = some (.cells cs t fr) ∧ 32 ≠ t ∧ 5 ≠ t) :
    ∀ j (hj : j < q.length), ∃ b off x, A = some ⟨b, off, none⟩ ∧ ∀ W, Kept base xs w W → W.cell? ⟨b, off + j, none⟩ = some x ∧ InB W x q[j] := by
  obtain ⟨zs, h1, h2, h3⟩ := h
  subst h1
  intro j hj
  have hj' : j < zs.length := by simpa using hj
  have hA : ∀ W, Kept base xs w W → OwnV bodyV 32 b0 W (.slice A n c) zs := fun W hk => hk.ownV h2 (fun k hk' => ⟨Nat.lt_of_lt_of_le (h2.lt k hk') hs, fun hm => by
    obtain ⟨cs, t, fr, hb, t1, _⟩ := hx k hm
    exact h2.ne_blk hb t1 hk'⟩)
  have hz := h3 zs[j] (List.getElem_mem hj')
  have hB : ∀ W, Kept base xs w W → OwnV bv 5 b0 W (bodyV zs[j]) zs[j].b := fun W hk => hk.ownV hz (fun k hk' => ⟨Nat.lt_of_lt_of_le (hz.lt k hk') hs, fun hm => by
    obtain ⟨cs, t, fr, hb, _, t2⟩ := hx k hm
    exact hz.ne_blk hb t2 hk'⟩)
  obtain ⟨A', c', e, _, hr⟩ := h2.inV
  cases e
  obtain ⟨b, off, rfl, _⟩ := hr.at2 (k := j) (by simpa using hj')
  refine ⟨b, off, bodyV zs[j], rfl, fun W hk => ⟨?_, ?_⟩⟩
  · obtain ⟨A', c', e, _, hr⟩ := (hA W hk).inV
    cases e
    obtain ⟨b', off', e', hc⟩ := hr.at2 (k := j) (by simpa using hj')
    cases e'
    rw [hc]; simp
  · have := (hB W hk).inV
    simpa using this
set_option maxHeartbeats 1000000 in
set_option maxRecDepth 100000 in
theorem Poll_own (v : Value) (e : EP) (now : Int) (w : World) (he : EPAt w v e) (ht : e.Tame) (hc : e.Cons) (hn : tame now) :
    Calls Try.prog 13 #[v, .int .i64 now] w (PollPostO e now w) := by
  obtain ⟨y, rfl, hq⟩ := he
  obtain ⟨A, c, rfl, _⟩ := hq.form
  have HQ := Lib.hid hq
  have HT := Lib.hid ht
  have HC := Lib.hid hc
  have HN := Lib.hid hn
  clear hq ht hc hn
  go_enter Try.func13, Try.ntmps13
  go_upto_region 1 with fail
  obtain ⟨W, hW, hE, hB, hZ⟩ : ∃ W, W = (w.alloc (.cells #[.int .i64 e.epoch, .int .i64 e.peer, .int .i64 e.acked, .int .i64 e.sent, .int .i64 e.got, .int .i64 e.timer, .slice A e.queue.length c, .bool e.owe] 26)).alloc (.cells #[.int .i64 0, .int .i64 0, .int .i64 0, .int .i64 0, .int .i64 0, .int .i64 0, .slice none 0 0, .bool false] 26) ∧ Ext w W ∧ W.heap[w.heap.size]? = some (.cells #[.int .i64 e.epoch, .int .i64 e.peer, .int .i64 e.acked, .int .i64 e.sent, .int .i64 e.got, .int .i64 e.timer, .slice A e.queue.length c, .bool e.owe] 26 (0, 0)) ∧ W.heap[w.heap.size + 1]? = some (.cells #[.int .i64 0, .int .i64 0, .int .i64 0, .int .i64 0, .int .i64 0, .int .i64 0, .slice none 0 0, .bool false] 26 (0, 0)) := ⟨_, rfl, ((Ext.refl w).alloc _).alloc _, ((Ext.refl _).alloc _).heap (heap_alloc_new w _), by have := heap_alloc_new (w.alloc (.cells #[.int .i64 e.epoch, .int .i64 e.peer, .int .i64 e.acked, .int .i64 e.sent, .int .i64 e.got, .int .i64 e.timer, .slice A e.queue.length c, .bool e.owe] 26)) (.cells #[.int .i64 0, .int .i64 0, .int .i64 0, .int .i64 0, .int .i64 0, .int .i64 0, .slice none 0 0, .bool false] 26); simpa using this⟩
  rw [← hW]
  clear hW
  obtain ⟨q0, q1, q2, q3, q4, q5, q6, q7⟩ := blk8 hB
  go_wp2_with fail
  refine (clone_any _ e W ⟨_, rfl, HQ.out.ext hE⟩ HT.out.mid).mono ?_
  rintro en w1 ⟨y1, rfl, hq1, hx1⟩
  obtain ⟨A2, c2, rfl, _⟩ := hq1.in_.form
  have hB1 := hx1.heap hB
  have hZ1 := hx1.heap hZ
  have hst := run_storeAt_blk (P := Try.prog) w1 w.heap.size 26 26 _ #[.int .i64 e.epoch, .int .i64 e.peer, .int .i64 e.acked, .int .i64 e.sent, .int .i64 e.got, .int .i64 e.timer, .slice A2 e.queue.length c2, .bool e.owe] hB1 ep_size rfl (by simp [Value.oneCell'])
  clear q0 q1 q2 q3 q4 q5 q6 q7
  go_upto_region 2 with first | refine wpList_store_run rfl 26 (.tmp 2) (.tmp 10) rfl _ _ _ rfl rfl hst ?_
  have hB2 := setRow_heap w1 w.heap.size _ #[.int .i64 e.epoch, .int .i64 e.peer, .int .i64 e.acked, .int .i64 e.sent, .int .i64 e.got, .int .i64 e.timer, .slice A2 e.queue.length c2, .bool e.owe] _ _ hB1
  have hg2 := gsetRow w1 w.heap.size #[.int .i64 e.epoch, .int .i64 e.peer, .int .i64 e.acked, .int .i64 e.sent, .int .i64 e.got, .int .i64 e.timer, .slice A2 e.queue.length c2, .bool e.owe]
  have hZ2 := blk_grown hZ1 hg2 (by simp)
  have hq2 := (hq1.far hg2 hB1 (by decide) (by decide)).low hE.size
  have hE2 := (hE.trans hx1).grown hg2 (fun k e => by cases e; omega)
  clear hst hB1 hZ1 hg2 hq1 hx1
  generalize w1.setRow w.heap.size #[.int .i64 e.epoch, .int .i64 e.peer, .int .i64 e.acked, .int .i64 e.sent, .int .i64 e.got, .int .i64 e.timer, .slice A2 e.queue.length c2, .bool e.owe] = w2 at *
  obtain ⟨q0, q1, q2, q3, q4, q5, q6, q7⟩ := blk8 hB2
  go_wp2_with fail
  refine (consistent_any _ e w2 ⟨_, rfl, hq2.in_⟩ (by have := HT.out.sent.2; omega)).mono ?_
  rintro en w3 ⟨r3, rfl, hr3, hx3⟩
  obtain rfl : r3 = true := hr3.2 HC.out
  have hB3 := hx3.heap hB2
  have hZ3 := hx3.heap hZ2
  have hq3 := hq2.ext hx3
  have hE3 := hE2.trans hx3
  clear q0 q1 q2 q3 q4 q5 q6 q7 hr3 hx3 hB2 hZ2 hq2 hE2
  go_upto_region 5 with fail
  have hX5 := (Ext.refl w3).alloc (.cells #[.slice none 0 0] 24)
  have hG5 := heap_alloc_new w3 (.cells #[.slice none 0 0] 24)
  have hB5 := hX5.heap hB3
  have hZ5 := hX5.heap hZ3
  have hq5 := hq3.ext hX5
  have hE5 := hE3.trans hX5
  have hlt5 := heap_lt hZ3
  have hs5 : (w3.alloc (.cells #[.slice none 0 0] 24)).heap.size = w3.heap.size + 1 := by simp
  have H5 : PollSt (w3.alloc (.cells #[.slice none 0 0] 24)) (w3.heap.size + 1) w.heap.size w3.heap.size (.slice A2 e.queue.length c2) e [] (w3.alloc (.cells #[.slice none 0 0] 24)) := ⟨hB5, Kept.refl _ _ _, by rw [hs5]; exact Nat.le_refl _, _, hG5, QOwn.nil _⟩
  have HS5 := Lib.hid hs5
  clear hX5 hG5 hB3 hZ3 hq3 hE3 hs5
  generalize w3.alloc (.cells #[.slice none 0 0] 24) = w5 at *
  generalize w3.heap.size = g at *
  obtain ⟨q0, q1, q2, q3, q4, q5, q6, q7⟩ := blk8 H5.ep
  go_upto_if 18 with fail
  go_cut [18] from 18 to 105 (fun _ wx => ∃ e1 out, PollSt w5 (g + 1) w.heap.size g (.slice A2 e.queue.length c2) e1 out wx ∧ Hid ((e1, out) = pollM e now) ∧ Hid (e1.queue = e.queue) ∧ out.length ≤ 10)
  case first =>
    clear hZ5 hE5
    by_cases hp0 : e.peer = 0
    · have hp0' : (e.peer == 0) = true := by simp [hp0]
      have HP0 := Lib.hid hp0
      clear hp0
      by_cases htm : e.timer ≤ now
      · have htm' : decide (e.timer ≤ now) = true := by simpa using htm
        obtain ⟨yo, hgo, hoo⟩ := H5.outs
        go_wp2_with fail
        refine (send1_any _ yo ⟨1, e.epoch, 0, 0, 0, []⟩ [] g (g + 1) w5 ⟨_, rfl, InV.nil _⟩ hgo hoo H5.size (by simp) (by simp)).mono ?_
        rintro en w6 ⟨r6, y6, rfl, hg6, hq6, hk6⟩
        have hB6 := hk6.heap H5.ep (by omega) (by simp; omega)
        have hk7 := H5.kept.trans (hk6.more (ys := [w.heap.size, g]) (by simp))
        have hs6 := Nat.le_trans H5.size hk6.size
        have hwr : IntKind.i64.wrap (now + 8) = now + 8 := by have := HN.out; unfold tame at this; rw [IntKind.wrap_i64]; omega
        clear q0 q1 q2 q3 q4 q5 q6 q7
        obtain ⟨q0, q1, q2, q3, q4, q5, q6, q7⟩ := blk8 hB6
        have f5 := blk_free hB6 5
        have hlt6 := heap_lt hB6
        go_wp2_with fail
        go_meet
        have hg7 : w6.grownBy (w6.setCell ⟨w.heap.size, 5, none⟩ (.int .i64 (now + 8))) (some w.heap.size) := gset w6 ⟨w.heap.size, 5, none⟩ (.int .i64 (now + 8))
        have hout := sendF_len [] ⟨1, e.epoch, 0, 0, 0, []⟩
        refine ⟨⟨e.epoch, e.peer, e.acked, e.sent, e.got, now + 8, e.queue, e.owe⟩, sendF [] ⟨1, e.epoch, 0, 0, 0, []⟩, ⟨blk_set hB6 5 _, hk7.trans (Kept.of_grown hg7 hs6 (fun k e => by cases e; exact .inr (by simp))), Nat.le_trans hs6 hg7.size, y6, blk_grown hg6 hg7 (by simp; omega), hq6.far hg7 hB6 (by decide) (by decide)⟩, Lib.hid ?_, Lib.hid rfl, by simp at hout; omega⟩
        rw [pollM, if_pos HP0.out, if_pos htm]
      · have htm' : decide (e.timer ≤ now) = false := by simpa using htm
        go_wp2_with fail
        go_meet
        exact ⟨e, [], H5, Lib.hid (by rw [pollM, if_pos HP0.out, if_neg (by omega)]), Lib.hid rfl, by simp⟩
    · have hp0' : (e.peer == 0) = false := by simp [hp0]
      have HP0 := Lib.hid hp0
      clear hp0
      go_upto_region 10 with fail
      rw [hp0']
      clear hp0'
      go_cut [41] from 31 to 41 (fun s wx => s = .bool (decide (e.acked < e.sent) && decide (e.timer ≤ now)) ∧ w5 = wx)
      case first =>
        by_cases t1 : e.acked < e.sent
        · have t1' : decide (e.acked < e.sent) = true := by simpa using t1
          go_wp2_with fail
          go_meet
          exact ⟨by rw [t1']; rfl, rfl⟩
        · have t1' : decide (e.acked < e.sent) = false := by simpa using t1
          go_wp2_with fail
          go_meet
          exact ⟨by rw [t1']; rfl, rfl⟩
      case rest =>
        obtain ⟨rfl, rfl⟩ := hcut
        go_upto_if 41 with fail
        go_cut [41] from 41 to 44 (fun _ wx => PollSt w5 (g + 1) w.heap.size g (.slice A2 e.queue.length c2) (e.at_ now (e.first now) 0) [] wx)
        case first =>
          by_cases t1 : e.acked < e.sent ∧ e.timer ≤ now
          · have t1' : (decide (e.acked < e.sent) && decide (e.timer ≤ now)) = true := by simp [t1]
            have hf : e.first now = e.acked := by rw [EP.first, if_pos t1]
            rw [t1']
            have f3 := blk_free H5.ep 3
            have hlt6 := heap_lt H5.ep
            clear t1 t1'
            go_wp2_with fail
            go_meet
            have hg7 : w5.grownBy (w5.setCell ⟨w.heap.size, 3, none⟩ (.int .i64 e.acked)) (some w.heap.size) := gset w5 ⟨w.heap.size, 3, none⟩ (.int .i64 e.acked)
            obtain ⟨yo, hgo, hoo⟩ := H5.outs
            rw [hf, at_zero]
            exact ⟨blk_set H5.ep 3 _, H5.kept.trans (Kept.of_grown hg7 H5.size (fun k e => by cases e; exact .inr (by simp))), Nat.le_trans H5.size hg7.size, yo, blk_grown hgo hg7 (by simp; omega), hoo.far hg7 H5.ep (by decide) (by decide)⟩
          · have t1' : (decide (e.acked < e.sent) && decide (e.timer ≤ now)) = false := by
              by_cases h1 : e.acked < e.sent
              · have h2 : ¬ e.timer ≤ now := fun h => t1 ⟨h1, h⟩
                simp [h2]
              · simp [h1]
            have hf : e.first now = e.sent := by rw [EP.first, if_neg t1]
            rw [t1']
            clear t1 t1'
            go_wp2_with fail
            go_meet
            rw [hf, at_zero]
            exact H5
        case rest =>
          have H6 := hcut
          clear hcut q0 q1 q2 q3 q4 q5 q6 q7
          obtain ⟨yo5, hgo5, _⟩ := H5.outs
          have HQK := Lib.hid (hq5.keptAt (base := g + 1) (xs := [w.heap.size, g]) (by rw [HS5.out]; exact Nat.le_refl _) (fun x hx => by
            simp only [List.mem_cons, List.not_mem_nil, or_false] at hx
            rcases hx with rfl | rfl
            · exact ⟨_, _, _, hB5, by decide, by decide⟩
            · exact ⟨_, _, _, hgo5, by decide, by decide⟩))
          clear H5 hq5 hB5 HS5 hgo5
          obtain ⟨s0, hs0⟩ : ∃ s0, s0 = e.first now := ⟨_, rfl⟩
          rw [← hs0] at H6
          have hs1 : e.acked ≤ s0 ∧ s0 - e.acked ≤ e.queue.length ∧ tame s0 := by
            obtain ⟨c1, c2', c3⟩ := HC.out
            rw [hs0, EP.first]
            split
            · exact ⟨by omega, by omega, HT.out.acked⟩
            · exact ⟨by omega, by omega, HT.out.sent⟩
          obtain ⟨d, hd⟩ : ∃ d : Nat, s0 - e.acked = d := ⟨(s0 - e.acked).toNat, by omega⟩
          have HS0 := Lib.hid hs0
          have HD := Lib.hid hd
          have hdl : d ≤ e.queue.length := by omega
          have hql := HT.out.queue
          have HT0 := Lib.hid hs1.2.2
          clear hs0 hs1 hd
          go_wp2_with fail
          go_loopw [8] (fun _ wr => ∃ k : Nat, k ≤ min 4 e.queue.length - d ∧ PollSt w5 (g + 1) w.heap.size g (.slice A2 e.queue.length c2) (e.at_ now s0 k) (outsL e s0 k) wr) (fun _ wr => (s0 + 5 - intOf ((wr.cell? ⟨w.heap.size, 3, none⟩).getD undef)).toNat)
          case atStart => exact ⟨0, by omega, H6⟩
          case round =>
            clear H6
            obtain ⟨k, hk, hT⟩ := hrel
            obtain ⟨wo, rfl⟩ : ∃ wo : World, wo = wr := ⟨_, rfl⟩
            have hep := hT.ep
            simp only [EP.at_] at hep
            obtain ⟨tm, htm⟩ : ∃ tm, tm = (if k = 0 then e.timer else now + 8) := ⟨_, rfl⟩
            rw [← htm] at hep
            have HTM := Lib.hid htm
            clear htm
            obtain ⟨q0, q1, q2, q3, q4, q5, q6, q7⟩ := blk8 hep
            obtain ⟨j, hj⟩ : ∃ j : Nat, j = d + k := ⟨_, rfl⟩
            have hwr : IntKind.i64.wrap (s0 + (k : Int) - e.acked) = (j : Int) := by have := HD.out; rw [IntKind.wrap_i64]; omega
            have HJ := Lib.hid hj
            clear hj
            go_upto_region 12 with fail
            go_cut [61] from 45 to 89 (fun s wx => s = .bool (decide (j < 4) && decide (j < e.queue.length)) ∧ wo = wx)
            case first =>
              by_cases t1 : j < 4
              · have t1' : decide ((j : Int) < 4) = true := by simp; omega
                by_cases t2 : j < e.queue.length
                · have t2' : decide ((j : Int) < (e.queue.length : Int)) = true := by simp; omega
                  go_wp2_with fail
                  go_meet
                  exact ⟨by simp [t1, t2], rfl⟩
                · have t2' : decide ((j : Int) < (e.queue.length : Int)) = false := by simp; omega
                  go_wp2_with fail
                  go_meet
                  exact ⟨by simp [t2], rfl⟩
              · have t1' : decide ((j : Int) < 4) = false := by simp; omega
                go_wp2_with fail
                go_meet
                exact ⟨by simp [t1], rfl⟩
            case rest =>
              obtain ⟨rfl, rfl⟩ := hcut
              cases hbb : (decide (j < 4) && decide (j < e.queue.length)) with
              | true =>
                obtain ⟨t1, t2⟩ : j < 4 ∧ j < e.queue.length := by simpa using hbb
                clear hbb
                obtain ⟨bb, oo, x, rfl, HX⟩ := HQK.out j t2
                have HB : Hid (dataP e s0 k = ⟨2, e.epoch, e.peer, s0 + k + 1, e.got, e.queue[j]⟩) := Lib.hid (by
                  have := HD.out; have := HJ.out
                  rw [dataP, show (s0 - e.acked).toNat + k = j by omega, List.getElem?_eq_getElem t2]; rfl)
                have hbl := HT.out.bodies _ (List.getElem_mem t2)
                generalize e.queue[j] = bj at *
                obtain ⟨hcx, hix⟩ := HX wo hT.kept
                obtain ⟨Ax, cx, rfl, _, _⟩ := id hix
                have HXX := Lib.hid HX
                clear HX
                have hwr2 : IntKind.i64.wrap (s0 + (k : Int) + 1) = s0 + (k : Int) + 1 := by have := HT0.out; unfold tame at this; rw [IntKind.wrap_i64]; omega
                have f3 := blk_free hep 3
                have hlt6 := heap_lt hep
                have hij : (j : Int) < (e.queue.length : Int) := by omega
                go_upto_region 15 with fail
                have hg7 : wo.grownBy (wo.setCell ⟨w.heap.size, 3, none⟩ (.int .i64 (s0 + (k : Int) + 1))) (some w.heap.size) := gset wo ⟨w.heap.size, 3, none⟩ (.int .i64 (s0 + (k : Int) + 1))
                have hep7 := blk_set hep 3 (.int .i64 (s0 + (k : Int) + 1))
                obtain ⟨yo, hgo, hoo⟩ := hT.outs
                have hgo7 := blk_grown hgo hg7 (by simp; omega)
                have hoo7 := hoo.far hg7 hep (by decide) (by decide)
                have hs7 := Nat.le_trans hT.size hg7.size
                have hk7 := hT.kept.trans (Kept.of_grown hg7 hT.size (fun k e => by cases e; exact .inr (by simp)))
                have HMX : Hid (((wo.cell? ⟨w.heap.size, 3, none⟩).getD undef) = .int .i64 (s0 + (k : Int))) := Lib.hid (by rw [q3]; rfl)
                clear q0 q1 q2 q3 q4 q5 q6 q7 f3 hg7 hgo hoo hT hep hcx hix
                generalize wo.setCell ⟨w.heap.size, 3, none⟩ (.int .i64 (s0 + (k : Int) + 1)) = w7 at *
                obtain ⟨q0, q1, q2, q3, q4, q5, q6, q7⟩ := blk8 hep7
                go_wp2_with fail
                refine (send1_any _ yo ⟨2, e.epoch, e.peer, s0 + k + 1, e.got, bj⟩ (outsL e s0 k) g (g + 1) w7 ⟨_, rfl, (HXX.out w7 hk7).2⟩ hgo7 hoo7 hs7 (by have := outsL_len e s0 k; omega) hbl).mono ?_
                rintro en w8 ⟨r8, y8, rfl, hg8, hq8, hk8⟩
                have hep8 := hk8.heap hep7 (by omega) (by simp; omega)
                have hk9 := hk7.trans (hk8.more (ys := [w.heap.size, g]) (by simp))
                have hs8 := Nat.le_trans hs7 hk8.size
                have hwr3 : IntKind.i64.wrap (now + 8) = now + 8 := by have := HN.out; unfold tame at this; rw [IntKind.wrap_i64]; omega
                clear q0 q1 q2 q3 q4 q5 q6 q7 hep7 hgo7 hoo7 hk8 hk7 hwr hwr2
                obtain ⟨q0, q1, q2, q3, q4, q5, q6, q7⟩ := blk8 hep8
                have f5 := blk_free hep8 5
                have hlt8 := heap_lt hep8
                go_wp2_with fail
                have hg9 : w8.grownBy (w8.setCell ⟨w.heap.size, 5, none⟩ (.int .i64 (now + 8))) (some w.heap.size) := gset w8 ⟨w.heap.size, 5, none⟩ (.int .i64 (now + 8))
                have hep9 := blk_set hep8 5 (.int .i64 (now + 8))
                go_roundw
                case rel =>
                  refine ⟨k + 1, by have := HJ.out; omega, ?_, hk9.trans (Kept.of_grown hg9 hs8 (fun k e => by cases e; exact .inr (by simp))), Nat.le_trans hs8 hg9.size, y8, blk_grown hg8 hg9 (by simp; omega), ?_⟩
                  · simp only [EP.at_]
                    rw [hep9]
                    simp [Int.add_assoc]
                  · rw [outsL, HB.out]
                    exact hq8.far hg9 hep8 (by decide) (by decide)
                case measure =>
                  have h3 := blk_at hep9 3 (.int .i64 (s0 + (k : Int) + 1)) rfl
                  rw [h3, HMX.out]
                  simp [intOf]; omega
              | false =>
                have HKK : Hid (k = min 4 e.queue.length - d) := Lib.hid (by
                  have : ¬ (j < 4 ∧ j < e.queue.length) := by
                    intro h; simp [h.1, h.2] at hbb
                  have := HJ.out
                  omega)
                clear hbb
                have HPM : Hid (pollM e now = (e.at_ now s0 k, if (outsL e s0 k).length = 0 ∧ e.owe = true then sendF (outsL e s0 k) ⟨3, e.epoch, e.peer, 0, e.got, []⟩ else outsL e s0 k)) := Lib.hid (by
                  have hh : min 4 e.queue.length - (s0 - e.acked).toNat = k := by have := HD.out; have := HKK.out; omega
                  rw [pollM, if_neg HP0.out, ← HS0.out, hh])
                have hol := outsL_len e s0 k
                have hk4 : k ≤ 4 := by have := HKK.out; omega
                obtain ⟨yo, hgo, hoo⟩ := hT.outs
                generalize outsL e s0 k = ou at *
                obtain ⟨Ay, cy, rfl, _⟩ := hoo.in_.form
                have hc0 := blk_at hgo 0 _ rfl
                by_cases ho0 : ou.length = 0
                · have ho0' : ((ou.length : Int) == 0) = true := by simp [ho0]
                  have HO0 := Lib.hid ho0
                  clear ho0
                  by_cases how : e.owe = true
                  · have HOW := Lib.hid how
                    have q7' : wo.cell? ⟨w.heap.size, 7, none⟩ = some (.bool true) := by rw [q7, how]
                    clear how q7
                    go_wp2_with fail
                    refine (send1_any _ _ ⟨3, e.epoch, e.peer, 0, e.got, []⟩ ou g (g + 1) wo ⟨_, rfl, InV.nil _⟩ hgo hoo hT.size (by omega) (by simp)).mono ?_
                    rintro en w8 ⟨r8, y8, rfl, hg8, hq8, hk8⟩
                    have hep8 := hk8.heap hT.ep (by omega) (by simp; omega)
                    have hk9 := hT.kept.trans (hk8.more (ys := [w.heap.size, g]) (by simp))
                    have hs8 := Nat.le_trans hT.size hk8.size
                    go_wp2_with fail
                    go_meet
                    refine ⟨e.at_ now s0 k, sendF ou ⟨3, e.epoch, e.peer, 0, e.got, []⟩, ⟨hep8, hk9, hs8, y8, hg8, hq8⟩, Lib.hid (by rw [HPM.out, if_pos ⟨HO0.out, HOW.out⟩]), Lib.hid rfl, ?_⟩
                    have := sendF_len ou ⟨3, e.epoch, e.peer, 0, e.got, []⟩
                    omega
                  · have HOW := Lib.hid how
                    have q7' : wo.cell? ⟨w.heap.size, 7, none⟩ = some (.bool false) := by rw [q7, Bool.eq_false_iff.2 how]
                    clear how q7
                    go_wp2_with fail
                    go_meet
                    exact ⟨e.at_ now s0 k, ou, hT, Lib.hid (by rw [HPM.out, if_neg (fun h => HOW.out h.2)]), Lib.hid rfl, by omega⟩
                · have ho0' : ((ou.length : Int) == 0) = false := by simpa using ho0
                  have HO0 := Lib.hid ho0
                  clear ho0
                  go_wp2_with fail
                  go_meet
                  exact ⟨e.at_ now s0 k, ou, hT, Lib.hid (by rw [HPM.out, if_neg (fun h => HO0.out h.1)]), Lib.hid rfl, by omega⟩
  case rest =>
    obtain ⟨e1, out, hT, HM, HQU, hol⟩ := hcut
    obtain ⟨yo5, hgo5, _⟩ := H5.outs
    have hq6 := hq5.keptK hT.kept (by rw [HS5.out]; exact Nat.le_refl _) (fun x hx => by
      simp only [List.mem_cons, List.not_mem_nil, or_false] at hx
      rcases hx with rfl | rfl
      · exact ⟨_, _, _, hB5, by decide, by decide⟩
      · exact ⟨_, _, _, hgo5, by decide, by decide⟩)
    have hZ6 := hT.kept.heap hZ5 (by omega) (by simp; omega)
    have hE6 := hT.kept.ext hE5 (by omega) (by simp; omega)
    have hB6 := hT.ep
    obtain ⟨yo, hgo, hoo⟩ := hT.outs
    obtain ⟨Ay, cy, rfl, _⟩ := hoo.in_.form
    clear q0 q1 q2 q3 q4 q5 q6 q7 H5 hT hq5 hZ5 hE5 hB5 hgo5 HS5
    have hc0 := blk_at hgo 0 _ rfl
    by_cases ho0 : out.length = 0
    · have ho0' : ¬ (0 : Int) < (out.length : Int) := by omega
      have HW : Hid (e1.owe = (e1.quiet out).owe) := Lib.hid (by simp [EP.quiet, ho0])
      clear ho0
      generalize e1.owe = ow at *
      go_wp2_with fail
      generalize wc = w7 at *
      have hZa : w7.drew.heap[w.heap.size + 1]? = some (.cells #[.int .i64 0, .int .i64 0, .int .i64 0, .int .i64 0, .int .i64 0, .int .i64 0, .slice none 0 0, .bool false] 26 (0, 0)) := hZ6
      have hBa : w7.drew.heap[w.heap.size]? = some (.cells #[.int .i64 e1.epoch, .int .i64 e1.peer, .int .i64 e1.acked, .int .i64 e1.sent, .int .i64 e1.got, .int .i64 e1.timer, .slice A2 e.queue.length c2, .bool ow] 26 (0, 0)) := hB6
      have hga : w7.drew.heap[g]? = some (.cells #[.slice Ay out.length cy] 24 (0, 0)) := hgo
      have hst := run_storeAt_blk (P := Try.prog) w7.drew (w.heap.size + 1) 26 26 _ #[.int .i64 e1.epoch, .int .i64 e1.peer, .int .i64 e1.acked, .int .i64 e1.sent, .int .i64 e1.got, .int .i64 e1.timer, .slice A2 e.queue.length c2, .bool ow] hZa ep_size rfl (by simp [Value.oneCell'])
      have hld := run_loadAt_blk (P := Try.prog) w7.drew w.heap.size 26 26 _ (0, 0) _ hBa Try.underlying26 rfl ep_size
      have hS : PollS w7.drew (w7.drew.setRow (w.heap.size + 1) #[.int .i64 e1.epoch, .int .i64 e1.peer, .int .i64 e1.acked, .int .i64 e1.sent, .int .i64 e1.got, .int .i64 e1.timer, .slice A2 e.queue.length c2, .bool ow]) (upF [2] #[false, false, false, false]) w7.drew := rfl
      refine wp_region_V [2] (PollS w7.drew (w7.drew.setRow (w.heap.size + 1) #[.int .i64 e1.epoch, .int .i64 e1.peer, .int .i64 e1.acked, .int .i64 e1.sent, .int .i64 e1.got, .int .i64 e1.timer, .slice A2 e.queue.length c2, .bool ow])) 4 #[false, false, false, false] (by kernel_rfl) rfl (by kernel_rfl) ?_
      refine wpV_v 0 (.agg #[.int .i64 e1.epoch, .int .i64 e1.peer, .int .i64 e1.acked, .int .i64 e1.sent, .int .i64 e1.got, .int .i64 e1.timer, .slice A2 e.queue.length c2, .bool ow]) rfl rfl (by kernel_rfl) (by kernel_rfl) (by kernel_rfl) (fun _ _ _ _ h => h) (by kernel_rfl) hS rfl (fun W' f hW hf => by
        have h2 := hf 2 rfl (by kernel_rfl)
        unfold PollS at hW
        rw [h2] at hW
        obtain rfl : W' = w7.drew := hW
        exact exec_load 26 (.tmp 2) rfl _ _ rfl hld) (fun hS' => ?_)
      replace hS := hS'
      clear hS'
      simp only [List.setIfInBounds_toArray, List.set_cons_zero, List.set_cons_succ] at hS ⊢
      refine wpV_v 1 (.slice Ay out.length cy) rfl rfl (by kernel_rfl) (by kernel_rfl) (by kernel_rfl) (fun _ _ _ _ h => h) (by kernel_rfl) hS rfl (fun W' f hW hf => by
        have hc1 : W'.cell? ⟨g, 0, none⟩ = some (.slice Ay out.length cy) := by
          unfold PollS at hW
          split at hW
          · subst hW
            exact blk_at ((setRow_other _ _ _ _ (by omega)).trans hga) 0 _ rfl
          · subst hW
            exact blk_at hga 0 _ rfl
        go_simp) (fun hS' => ?_)
      replace hS := hS'
      clear hS'
      simp only [List.setIfInBounds_toArray, List.set_cons_zero, List.set_cons_succ] at hS ⊢
      refine wpV_s 2 rfl rfl (by kernel_rfl) rfl (exec_store 26 (.tmp 4) (.tmp 110) rfl _ _ _ rfl rfl hst) rfl ?_
      replace hS : PollS w7.drew (w7.drew.setRow (w.heap.size + 1) #[.int .i64 e1.epoch, .int .i64 e1.peer, .int .i64 e1.acked, .int .i64 e1.sent, .int .i64 e1.got, .int .i64 e1.timer, .slice A2 e.queue.length c2, .bool ow]) (upF [2] #[true, true, true, false]) (w7.drew.setRow (w.heap.size + 1) #[.int .i64 e1.epoch, .int .i64 e1.peer, .int .i64 e1.acked, .int .i64 e1.sent, .int .i64 e1.got, .int .i64 e1.timer, .slice A2 e.queue.length c2, .bool ow]) := rfl
      simp only [List.setIfInBounds_toArray, List.set_cons_zero, List.set_cons_succ]
      refine wpV_v 3 (.slice Ay out.length cy) rfl rfl (by kernel_rfl) (by kernel_rfl) (by kernel_rfl) (fun _ _ _ _ h => h) (by kernel_rfl) hS rfl (fun W' f hW hf => by go_simp) (fun hS' => ?_)
      clear hS'
      simp only [List.setIfInBounds_toArray, List.set_cons_zero, List.set_cons_succ]
      refine wpV_end (by kernel_rfl) ?_
      refine NoPanic.normal ?_
      have hZ9 := setRow_heap w7.drew (w.heap.size + 1) _ #[.int .i64 e1.epoch, .int .i64 e1.peer, .int .i64 e1.acked, .int .i64 e1.sent, .int .i64 e1.got, .int .i64 e1.timer, .slice A2 e.queue.length c2, .bool ow] _ _ hZa
      have hg9 := gsetRow w7.drew (w.heap.size + 1) #[.int .i64 e1.epoch, .int .i64 e1.peer, .int .i64 e1.acked, .int .i64 e1.sent, .int .i64 e1.got, .int .i64 e1.timer, .slice A2 e.queue.length c2, .bool ow]
      have hX8 := (Ext.refl w7).drew
      have hq9 := (hq6.ext hX8).far hg9 hZa (by decide) (by decide)
      have ho9 := (hoo.ext hX8).far hg9 hZa (by decide) (by decide)
      have hE9 := (hE6.trans hX8).grown hg9 (fun k e => by cases e; omega)
      clear hst hld hX8 hg9 hS hZa hBa hga
      generalize w7.drew.setRow (w.heap.size + 1) #[.int .i64 e1.epoch, .int .i64 e1.peer, .int .i64 e1.acked, .int .i64 e1.sent, .int .i64 e1.got, .int .i64 e1.timer, .slice A2 e.queue.length c2, .bool ow] = w9 at *
      go_wp2_with fail
      obtain ⟨e0, e1', e2, e3, e4, e5, e6, e7⟩ := blk8 hZ9
      refine bodyPost_ret (v := .tuple #[.agg #[.int .i64 e1.epoch, .int .i64 e1.peer, .int .i64 e1.acked, .int .i64 e1.sent, .int .i64 e1.got, .int .i64 e1.timer, .slice A2 e.queue.length c2, .bool ow], .slice Ay out.length cy]) (by simp [results, Try.results13, go_sem, e0, e1', e2, e3, e4, e5, e6, e7]) rfl ?_
      refine ⟨_, _, e1.quiet out, out, by rw [HW.out]; rfl, by rw [pollF, ← HM.out], ?_, ho9.low (by omega), hE9⟩
      show QOwn w.heap.size w9 _ e1.queue
      rw [HQU.out]
      exact hq9
    · have ho0' : (0 : Int) < (out.length : Int) := by omega
      have HW : Hid (false = (e1.quiet out).owe) := Lib.hid (by simp [EP.quiet, ho0])
      clear ho0
      obtain ⟨q0, q1, q2, q3, q4, q5, q6, q7⟩ := blk8 hB6
      have f7 := blk_free hB6 7
      have hlt6 := heap_lt hB6
      go_upto_region 21 with fail
      have hg7 : wc.grownBy (wc.setCell ⟨w.heap.size, 7, none⟩ (.bool false)) (some w.heap.size) := gset wc ⟨w.heap.size, 7, none⟩ (.bool false)
      have hB7 := blk_set hB6 7 (.bool false)
      have hZ7 := blk_grown hZ6 hg7 (by simp)
      have hgo7 := blk_grown hgo hg7 (by simp; omega)
      have hq7 := hq6.far hg7 hB6 (by decide) (by decide)
      have hoo7 := hoo.far hg7 hB6 (by decide) (by decide)
      have hE7 := hE6.grown hg7 (fun k e => by cases e; omega)
      clear q0 q1 q2 q3 q4 q5 q6 q7 f7 hg7 hB6 hZ6 hgo hq6 hoo hE6 hc0 hlt6
      generalize wc.setCell ⟨w.heap.size, 7, none⟩ (.bool false) = w7 at *
      have hB6 := hB7
      have hZ6 := hZ7
      have hgo := hgo7
      have hq6 := hq7
      have hoo := hoo7
      have hE6 := hE7
      clear hB7 hZ7 hgo7 hq7 hoo7 hE7
      generalize false = ow at HW hB6 ⊢
      have hZa : w7.drew.heap[w.heap.size + 1]? = some (.cells #[.int .i64 0, .int .i64 0, .int .i64 0, .int .i64 0, .int .i64 0, .int .i64 0, .slice none 0 0, .bool false] 26 (0, 0)) := hZ6
      have hBa : w7.drew.heap[w.heap.size]? = some (.cells #[.int .i64 e1.epoch, .int .i64 e1.peer, .int .i64 e1.acked, .int .i64 e1.sent, .int .i64 e1.got, .int .i64 e1.timer, .slice A2 e.queue.length c2, .bool ow] 26 (0, 0)) := hB6
      have hga : w7.drew.heap[g]? = some (.cells #[.slice Ay out.length cy] 24 (0, 0)) := hgo
      have hst := run_storeAt_blk (P := Try.prog) w7.drew (w.heap.size + 1) 26 26 _ #[.int .i64 e1.epoch, .int .i64 e1.peer, .int .i64 e1.acked, .int .i64 e1.sent, .int .i64 e1.got, .int .i64 e1.timer, .slice A2 e.queue.length c2, .bool ow] hZa ep_size rfl (by simp [Value.oneCell'])
      have hld := run_loadAt_blk (P := Try.prog) w7.drew w.heap.size 26 26 _ (0, 0) _ hBa Try.underlying26 rfl ep_size
      have hS : PollS w7.drew (w7.drew.setRow (w.heap.size + 1) #[.int .i64 e1.epoch, .int .i64 e1.peer, .int .i64 e1.acked, .int .i64 e1.sent, .int .i64 e1.got, .int .i64 e1.timer, .slice A2 e.queue.length c2, .bool ow]) (upF [2] #[false, false, false, false]) w7.drew := rfl
      refine wp_region_V [2] (PollS w7.drew (w7.drew.setRow (w.heap.size + 1) #[.int .i64 e1.epoch, .int .i64 e1.peer, .int .i64 e1.acked, .int .i64 e1.sent, .int .i64 e1.got, .int .i64 e1.timer, .slice A2 e.queue.length c2, .bool ow])) 4 #[false, false, false, false] (by kernel_rfl) rfl (by kernel_rfl) ?_
      refine wpV_v 0 (.agg #[.int .i64 e1.epoch, .int .i64 e1.peer, .int .i64 e1.acked, .int .i64 e1.sent, .int .i64 e1.got, .int .i64 e1.timer, .slice A2 e.queue.length c2, .bool ow]) rfl rfl (by kernel_rfl) (by kernel_rfl) (by kernel_rfl) (fun _ _ _ _ h => h) (by kernel_rfl) hS rfl (fun W' f hW hf => by
        have h2 := hf 2 rfl (by kernel_rfl)
        unfold PollS at hW
        rw [h2] at hW
        obtain rfl : W' = w7.drew := hW
        exact exec_load 26 (.tmp 2) rfl _ _ rfl hld) (fun hS' => ?_)
      replace hS := hS'
      clear hS'
      simp only [List.setIfInBounds_toArray, List.set_cons_zero, List.set_cons_succ] at hS ⊢
      refine wpV_v 1 (.slice Ay out.length cy) rfl rfl (by kernel_rfl) (by kernel_rfl) (by kernel_rfl) (fun _ _ _ _ h => h) (by kernel_rfl) hS rfl (fun W' f hW hf => by
        have hc1 : W'.cell? ⟨g, 0, none⟩ = some (.slice Ay out.length cy) := by
          unfold PollS at hW
          split at hW
          · subst hW
            exact blk_at ((setRow_other _ _ _ _ (by omega)).trans hga) 0 _ rfl
          · subst hW
            exact blk_at hga 0 _ rfl
        go_simp) (fun hS' => ?_)
      replace hS := hS'
      clear hS'
      simp only [List.setIfInBounds_toArray, List.set_cons_zero, List.set_cons_succ] at hS ⊢
      refine wpV_s 2 rfl rfl (by kernel_rfl) rfl (exec_store 26 (.tmp 4) (.tmp 110) rfl _ _ _ rfl rfl hst) rfl ?_
      replace hS : PollS w7.drew (w7.drew.setRow (w.heap.size + 1) #[.int .i64 e1.epoch, .int .i64 e1.peer, .int .i64 e1.acked, .int .i64 e1.sent, .int .i64 e1.got, .int .i64 e1.timer, .slice A2 e.queue.length c2, .bool ow]) (upF [2] #[true, true, true, false]) (w7.drew.setRow (w.heap.size + 1) #[.int .i64 e1.epoch, .int .i64 e1.peer, .int .i64 e1.acked, .int .i64 e1.sent, .int .i64 e1.got, .int .i64 e1.timer, .slice A2 e.queue.length c2, .bool ow]) := rfl
      simp only [List.setIfInBounds_toArray, List.set_cons_zero, List.set_cons_succ]
      refine wpV_v 3 (.slice Ay out.length cy) rfl rfl (by kernel_rfl) (by kernel_rfl) (by kernel_rfl) (fun _ _ _ _ h => h) (by kernel_rfl) hS rfl (fun W' f hW hf => by go_simp) (fun hS' => ?_)
      clear hS'
      simp only [List.setIfInBounds_toArray, List.set_cons_zero, List.set_cons_succ]
      refine wpV_end (by kernel_rfl) ?_
      refine NoPanic.normal ?_
      have hZ9 := setRow_heap w7.drew (w.heap.size + 1) _ #[.int .i64 e1.epoch, .int .i64 e1.peer, .int .i64 e1.acked, .int .i64 e1.sent, .int .i64 e1.got, .int .i64 e1.timer, .slice A2 e.queue.length c2, .bool ow] _ _ hZa
      have hg9 := gsetRow w7.drew (w.heap.size + 1) #[.int .i64 e1.epoch, .int .i64 e1.peer, .int .i64 e1.acked, .int .i64 e1.sent, .int .i64 e1.got, .int .i64 e1.timer, .slice A2 e.queue.length c2, .bool ow]
      have hX8 := (Ext.refl w7).drew
      have hq9 := (hq6.ext hX8).far hg9 hZa (by decide) (by decide)
      have ho9 := (hoo.ext hX8).far hg9 hZa (by decide) (by decide)
      have hE9 := (hE6.trans hX8).grown hg9 (fun k e => by cases e; omega)
      clear hst hld hX8 hg9 hS hZa hBa hga
      generalize w7.drew.setRow (w.heap.size + 1) #[.int .i64 e1.epoch, .int .i64 e1.peer, .int .i64 e1.acked, .int .i64 e1.sent, .int .i64 e1.got, .int .i64 e1.timer, .slice A2 e.queue.length c2, .bool ow] = w9 at *
      go_wp2_with fail
      obtain ⟨e0, e1', e2, e3, e4, e5, e6, e7⟩ := blk8 hZ9
      refine bodyPost_ret (v := .tuple #[.agg #[.int .i64 e1.epoch, .int .i64 e1.peer, .int .i64 e1.acked, .int .i64 e1.sent, .int .i64 e1.got, .int .i64 e1.timer, .slice A2 e.queue.length c2, .bool ow], .slice Ay out.length cy]) (by simp [results, Try.results13, go_sem, e0, e1', e2, e3, e4, e5, e6, e7]) rfl ?_
      refine ⟨_, _, e1.quiet out, out, by rw [HW.out]; rfl, by rw [pollF, ← HM.out], ?_, ho9.low (by omega), hE9⟩
      show QOwn w.heap.size w9 _ e1.queue
      rw [HQU.out]
      exact hq9
theorem Poll_any (v : Value) (e : EP) (now : Int) (w : World) (he : EPAt w v e) (ht : e.Tame) (hc : e.Cons) (hn : tame now) :
    Calls Try.prog 13 #[v, .int .i64 now] w (PollPost e now w) := (Poll_own v e now w he ht hc hn).mono fun en w' ⟨y, yo, e', out, h1, h2, h3, h4, h5⟩ => ⟨y, yo, e', out, h1, h2, h3.in_, h4.in_, h5⟩
end Go.Proofs.Ytnobepobalpccaa
