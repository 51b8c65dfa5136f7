/- Receive of the program. -/
import Derived.Test.YtnobepobalpccaaTraF
import Derived.Deep.CutBlock
namespace Go.Proofs.Ytnobepobalpccaa
open Go.RowKit
set_option linter.unusedVariables false

def recv1 (e : EP) (p : Pkt) : EP × Bool := if e.peer < p.src then (⟨e.epoch, p.src, 0, 0, 0, 0, if e.peer = 0 then e.queue else [], e.owe⟩, !decide (e.peer = 0)) else (e, false)
def recv2 (e : EP) (p : Pkt) : EP := if e.acked < p.ack ∧ p.ack ≤ e.acked + e.queue.length then ⟨e.epoch, e.peer, p.ack, max e.sent p.ack, e.got, e.timer, e.queue.drop (p.ack - e.acked).toNat, e.owe⟩ else e
def EP.owes (e : EP) : EP := ⟨e.epoch, e.peer, e.acked, e.sent, e.got, e.timer, e.queue, true⟩
def recv3 (e : EP) (p : Pkt) : EP × List (List UInt8) :=
  if p.kind = 2 then if p.seq = e.got + 1 then (⟨e.epoch, e.peer, e.acked, e.sent, e.got + 1, e.timer, e.queue, true⟩, [p.body]) else (e.owes, [])
  else if p.kind = 1 then (e.owes, []) else (e, [])
/-- what Receive makes of a packet -/
def recvF (e : EP) (p : Pkt) (er : Int) : EP × List (List UInt8) × Bool :=
  if er ≠ 0 ∨ p.src < e.peer then (e, [], false)
  else if p.dst ≠ e.epoch then ((recv1 e p).1.owes, [], (recv1 e p).2)
  else ((recv3 (recv2 (recv1 e p).1 p) p).1, (recv3 (recv2 (recv1 e p).1 p) p).2, (recv1 e p).2)
def RecvPostO (e : EP) (b : List UInt8) (w : World) (en : Ending) (w' : World) : Prop := ∃ y ym e' ms rs p er, en = .returned (.tuple #[.agg #[.int .i64 e'.epoch, .int .i64 e'.peer, .int .i64 e'.acked, .int .i64 e'.sent, .int .i64 e'.got, .int .i64 e'.timer, y, .bool e'.owe], ym, .bool rs]) ∧ DecIs b p er ∧ (e', ms, rs) = recvF e p er ∧ (∀ W', w'.heap.size ≤ W'.heap.size → (∀ i, w.heap.size ≤ i → i < w'.heap.size → W'.heap[i]? = w'.heap[i]?) → QIn W' y e'.queue) ∧ QOwn w.heap.size w' ym ms ∧ Ext w w'
def RecvPost (e : EP) (b : List UInt8) (w : World) (en : Ending) (w' : World) : Prop := ∃ y ym e' ms rs p er, en = .returned (.tuple #[.agg #[.int .i64 e'.epoch, .int .i64 e'.peer, .int .i64 e'.acked, .int .i64 e'.sent, .int .i64 e'.got, .int .i64 e'.timer, y, .bool e'.owe], ym, .bool rs]) ∧ DecIs b p er ∧ (e', ms, rs) = recvF e p er ∧ QIn w' y e'.queue ∧ QIn w' ym ms ∧ Ext w w'
theorem DecIs.right {b : List UInt8} {p : Pkt} (h : DecIs b p 0) : rightP p := by
  rcases h with ⟨_, _, h⟩ | ⟨_, _, _, h⟩ | ⟨_, _, _, ⟨_, h, rfl, _⟩ | ⟨_, _, h⟩⟩
  · cases h
  · cases h
  · exact h
  · cases h
theorem rightP.nums {p : Pkt} (h : rightP p) : (1 ≤ p.src ∧ p.src ≤ 1073741824) ∧ (0 ≤ p.dst ∧ p.dst ≤ 1073741824) ∧ (0 ≤ p.seq ∧ p.seq ≤ 1073741824) ∧ (0 ≤ p.ack ∧ p.ack ≤ 1073741824) ∧ p.body.length ≤ 6000 := by
  obtain ⟨h1, h2, h3, h4⟩ := four_of h.2.1
  have h5 := h.1
  simp only [badP, not_or, okN] at *
  omega
theorem pk_size : (Try.prog.info? 56).map (·.size) = some 6 := by kernel_rfl
/-- what lies from lo on is as it was, but for some blocks -/
def Lie (lo : Nat) (xs : List Nat) (w0 W : World) : Prop := ∀ i, lo ≤ i → i < w0.heap.size → i ∉ xs → W.heap[i]? = w0.heap[i]?
theorem Kept.lie {xs : List Nat} {w0 W : World} (h : Kept w0.heap.size xs w0 W) (lo : Nat) : Lie lo xs w0 W := fun i _ hi hx => h.block i hi hx
theorem Lie.ownV {α : Type} {f : α → Value} {e : TypeId} {lo : Nat} {xs : List Nat} {w0 W : World} {v : Value} {l : List α} (h : Lie lo xs w0 W) (ho : OwnV f e lo w0 v l) (hx : ∀ x ∈ xs, v.ownBlock ≠ some x) : OwnV f e lo W v l := by
  refine ⟨ho.1, ?_⟩
  rcases ho.2 with h3 | ⟨g, cap, cur, rfl, hg, hh, r⟩
  · exact Or.inl h3
  · exact Or.inr ⟨g, cap, cur, rfl, hg, (h g hg (heap_lt hh) (fun hm => hx g hm rfl)).trans hh, r⟩
theorem Lie.qOwn {lo : Nat} {xs : List Nat} {w0 W : World} {y : Value} {q : List (List UInt8)} (h : Lie lo xs w0 W) (ho : QOwn lo w0 y q) (hx : ∀ x ∈ xs, ∃ cs t fr, w0.heap[x]? = some (.cells cs t fr) ∧ 32 ≠ t ∧ 5 ≠ t) : QOwn lo W y q := by
  obtain ⟨zs, h1, h2, h3⟩ := ho
  refine ⟨zs, h1, h.ownV h2 (fun x hm => ?_), fun z hz => h.ownV (h3 z hz) (fun x hm => ?_)⟩
  · obtain ⟨cs, t, fr, hb, t1, _⟩ := hx x hm
    exact h2.ne_blk hb t1
  · obtain ⟨cs, t, fr, hb, _, t2⟩ := hx x hm
    exact (h3 z hz).ne_blk hb t2
/-- where Receive stands: the endpoint's variable h -/
structure RSt (T : TypeId) (w0 : World) (h : Nat) (e : EP) (W : World) : Prop where
  ep : ∃ y, W.heap[h]? = some (.cells #[.int .i64 e.epoch, .int .i64 e.peer, .int .i64 e.acked, .int .i64 e.sent, .int .i64 e.got, .int .i64 e.timer, y, .bool e.owe] T (0, 0)) ∧ ∀ W', Lie h [h, h + 1] w0 W' → QIn W' y e.queue
  kept : Kept w0.heap.size [h] w0 W
theorem RSt.put {T : TypeId} {w0 : World} {h : Nat} {e : EP} {W : World} (H : RSt T w0 h e W) (j : Nat) (u : Value) : Kept w0.heap.size [h] w0 (W.setCell ⟨h, j, none⟩ u) :=
  H.kept.trans (Kept.of_grown (gset W ⟨h, j, none⟩ u) H.kept.size (fun k e => by cases e; exact .inr (by simp)))
theorem Kept.put {b h : Nat} {w0 W : World} (H : Kept b [h] w0 W) (j : Nat) (u : Value) (hb : b ≤ w0.heap.size := by exact Nat.le_refl _) : Kept b [h] w0 (W.setCell ⟨h, j, none⟩ u) :=
  H.trans (Kept.of_grown (gset W ⟨h, j, none⟩ u) (Nat.le_trans hb H.size) (fun k e => by cases e; exact .inr (by simp)))
theorem RSt.ext {T : TypeId} {w0 : World} {h : Nat} {e : EP} {W W' : World} (H : RSt T w0 h e W) (hx : Ext W W') : RSt T w0 h e W' := by
  obtain ⟨y, h1, h2⟩ := H.ep
  exact ⟨⟨y, hx.heap h1, h2⟩, H.kept.trans (Kept.of_ext hx H.kept.size)⟩
theorem Kept.two {base h : Nat} {a b : World} (H : Kept base [h] a b) : Kept base [h, h + 1] a b := H.more (by simp)
theorem RSt.form {T : TypeId} {w0 : World} {h : Nat} {e : EP} {W : World} (H : RSt T w0 h e W) : ∃ A c, W.heap[h]? = some (.cells #[.int .i64 e.epoch, .int .i64 e.peer, .int .i64 e.acked, .int .i64 e.sent, .int .i64 e.got, .int .i64 e.timer, .slice A e.queue.length c, .bool e.owe] T (0, 0)) ∧ e.queue.length ≤ c ∧ ∀ W', Lie h [h, h + 1] w0 W' → QIn W' (.slice A e.queue.length c) e.queue := by
  obtain ⟨y, h1, h2⟩ := H.ep
  obtain ⟨A, c, rfl, hc⟩ := (h2 W (H.kept.two.lie h)).form
  exact ⟨A, c, h1, hc, h2⟩
theorem recv1_tame {e e1 : EP} {p : Pkt} {rs : Bool} (ht : e.Tame) (h : (e1, rs) = recv1 e p) : e1.epoch = e.epoch ∧ tame e1.acked ∧ tame e1.sent ∧ tame e1.got ∧ e1.queue.length ≤ 1000 := by
  have hz : tame 0 := by unfold tame; omega
  have hq := ht.queue
  unfold recv1 at h
  split at h
  · simp only [Prod.mk.injEq] at h
    obtain ⟨rfl, _⟩ := h
    refine ⟨rfl, hz, hz, hz, ?_⟩
    show (if e.peer = 0 then e.queue else []).length ≤ 1000
    split
    · exact hq
    · simp
  · simp only [Prod.mk.injEq] at h
    obtain ⟨rfl, _⟩ := h
    exact ⟨rfl, ht.acked, ht.sent, ht.got, hq⟩
theorem run_max (P : Program) (ats : Array TypeId) (ty : TypeId) (a b : Int) (w : World) : (Builtin.max_ ats ty #[.int .i64 a, .int .i64 b]).run P w = .ok (.int .i64 (max a b)) w := by
  by_cases h : a < b
  · simp [Builtin.max_, Builtin.max2, h, go_sem]; omega
  · simp [Builtin.max_, Builtin.max2, h, go_sem]; omega
theorem wpList_max {P : Program} {ops : Array Oper} {rest : List Oper} {op : Oper} {a : Act} {w : World} {Q : Exit → Act → World → Prop} (hgd : op.guard = none) (x y : Operand) (t : TypeId) (ho : op.op = .call { callee := .builtin .max, args := #[x, y], argTypes := #[t, t] })
    (m n : Int) (hx : a.eval x = .int .i64 m) (hy : a.eval y = .int .i64 n) (h : wpList P ops Q rest (a.put op.dst (.int .i64 (max m n))) w) : wpList P ops Q (op :: rest) a w :=
  wpList_plain hgd fun _ hK => by
    unfold Oper.wp execOp
    simp only [ho, resolve, invoke, builtin, Sem.run_bind, Sem.run_pure, Result.andThen_ok, List.map_toArray, List.map_cons, List.map_nil, hx, hy, run_max]
    exact hK _ _ h
theorem QIn_suf (A : Option Addr) (c lo : Nat) (q : List (List UInt8)) (h1 : lo ≤ q.length) (hc : q.length ≤ c) : ∃ A' c', (∀ W, (Instr.slice 24 (.slice A q.length c) (some (.int .i64 (lo : Int))) none none).run Try.prog W = .ok (.slice A' (q.length - lo) c') W) ∧ ∀ W, QIn W (.slice A q.length c) q → QIn W (.slice A' (q.length - lo) c') (q.drop lo) := by
  obtain ⟨i0, hi, hz0, hz1, hz2⟩ := info_parts bs_info
  refine ⟨if c = lo then A else A.map (·.add (lo * i0.size)), c - lo, fun W => run_slice_l Try.underlying24 hi A _ c lo h1 hc W, fun W hq => ?_⟩
  obtain ⟨zs, rfl, ⟨A1, c1, e, hc1, hr⟩, h3⟩ := hq
  injection e with ea eb ec
  subst ea
  subst ec
  refine ⟨zs.drop lo, by simp, ⟨if c = lo then A else A.map (·.add (lo * i0.size)), c - lo, by simp, by simp at *; omega, ?_⟩, fun z hz => h3 z (List.mem_of_mem_drop hz)⟩
  rw [hz1, Nat.mul_one, List.map_drop]
  exact hr.sub c lo (fun e => List.drop_of_length_le (by simp at *; omega))
set_option maxHeartbeats 2000000 in
set_option maxRecDepth 100000 in
theorem Receive_own (v x : Value) (e : EP) (b : List UInt8) (w : World) (he : EPAt w v e) (hx : InB w x b) (ht : e.Tame) (hc : e.Cons) (hb : b.length ≤ 1000000) :
    Calls Try.prog 14 #[v, x] w (RecvPostO e b w) := by
  obtain ⟨y, rfl, hq⟩ := he
  obtain ⟨A, c, rfl, _⟩ := hq.form
  obtain ⟨B, cb, rfl, _, _⟩ := id hx
  have HQ := Lib.hid hq
  have HT := Lib.hid ht
  have HC := Lib.hid hc
  clear hq ht hc
  go_enter Try.func14, Try.ntmps14
  go_upto_region 1 with fail
  obtain ⟨W, hW, hE, hB, hZ⟩ : ∃ W, W = (w.alloc (.cells #[.int .i64 e.epoch, .int .i64 e.peer, .int .i64 e.acked, .int .i64 e.sent, .int .i64 e.got, .int .i64 e.timer, .slice A e.queue.length c, .bool e.owe] 26)).alloc (.cells #[.int .i64 0, .int .i64 0, .int .i64 0, .int .i64 0, .int .i64 0, .int .i64 0, .slice none 0 0, .bool false] 26) ∧ Ext w W ∧ W.heap[w.heap.size]? = some (.cells #[.int .i64 e.epoch, .int .i64 e.peer, .int .i64 e.acked, .int .i64 e.sent, .int .i64 e.got, .int .i64 e.timer, .slice A e.queue.length c, .bool e.owe] 26 (0, 0)) ∧ W.heap[w.heap.size + 1]? = some (.cells #[.int .i64 0, .int .i64 0, .int .i64 0, .int .i64 0, .int .i64 0, .int .i64 0, .slice none 0 0, .bool false] 26 (0, 0)) := ⟨_, rfl, ((Ext.refl w).alloc _).alloc _, ((Ext.refl _).alloc _).heap (heap_alloc_new w _), by have := heap_alloc_new (w.alloc (.cells #[.int .i64 e.epoch, .int .i64 e.peer, .int .i64 e.acked, .int .i64 e.sent, .int .i64 e.got, .int .i64 e.timer, .slice A e.queue.length c, .bool e.owe] 26)) (.cells #[.int .i64 0, .int .i64 0, .int .i64 0, .int .i64 0, .int .i64 0, .int .i64 0, .slice none 0 0, .bool false] 26); simpa using this⟩
  rw [← hW]
  clear hW
  obtain ⟨q0, q1, q2, q3, q4, q5, q6, q7⟩ := blk8 hB
  go_wp2_with fail
  refine (clone_any _ e W ⟨_, rfl, HQ.out.ext hE⟩ HT.out.mid).mono ?_
  rintro en w1 ⟨y1, rfl, hq1, hx1⟩
  obtain ⟨A2, c2, rfl, _⟩ := hq1.in_.form
  have hB1 := hx1.heap hB
  have hZ1 := hx1.heap hZ
  have hst := run_storeAt_blk (P := Try.prog) w1 w.heap.size 26 26 _ #[.int .i64 e.epoch, .int .i64 e.peer, .int .i64 e.acked, .int .i64 e.sent, .int .i64 e.got, .int .i64 e.timer, .slice A2 e.queue.length c2, .bool e.owe] hB1 ep_size rfl (by simp [Value.oneCell'])
  clear q0 q1 q2 q3 q4 q5 q6 q7
  go_upto_region 2 with first | refine wpList_store_run rfl 26 (.tmp 2) (.tmp 13) rfl _ _ _ rfl rfl hst ?_
  have hB2 := setRow_heap w1 w.heap.size _ #[.int .i64 e.epoch, .int .i64 e.peer, .int .i64 e.acked, .int .i64 e.sent, .int .i64 e.got, .int .i64 e.timer, .slice A2 e.queue.length c2, .bool e.owe] _ _ hB1
  have hg2 := gsetRow w1 w.heap.size #[.int .i64 e.epoch, .int .i64 e.peer, .int .i64 e.acked, .int .i64 e.sent, .int .i64 e.got, .int .i64 e.timer, .slice A2 e.queue.length c2, .bool e.owe]
  have hZ2 := blk_grown hZ1 hg2 (by simp)
  have hq2 := (hq1.far hg2 hB1 (by decide) (by decide)).low hE.size
  have hE2 := (hE.trans hx1).grown hg2 (fun k e => by cases e; omega)
  clear hst hB1 hZ1 hg2 hq1 hx1
  generalize w1.setRow w.heap.size #[.int .i64 e.epoch, .int .i64 e.peer, .int .i64 e.acked, .int .i64 e.sent, .int .i64 e.got, .int .i64 e.timer, .slice A2 e.queue.length c2, .bool e.owe] = w2 at *
  go_wp2_with fail
  refine (Decode_any _ b w2 (hx.ext hE2) (by omega)).mono ?_
  rintro en w3 ⟨pv, p, er, rfl, hD, ⟨yp, rfl, hpo⟩, hx3⟩
  obtain ⟨Ap, cp, rfl, _, _⟩ := hpo.inV
  have HD := Lib.hid hD
  clear hD
  have hP3 := heap_alloc_new w3 (.cells #[.int .i64 0, .int .i64 0, .int .i64 0, .int .i64 0, .int .i64 0, .slice none 0 0] 56)
  have hst := run_storeAt_blk (P := Try.prog) (w3.alloc (.cells #[.int .i64 0, .int .i64 0, .int .i64 0, .int .i64 0, .int .i64 0, .slice none 0 0] 56)) w3.heap.size 56 56 _ #[.int .i64 p.kind, .int .i64 p.src, .int .i64 p.dst, .int .i64 p.seq, .int .i64 p.ack, .slice Ap p.body.length cp] hP3 pk_size rfl (by simp [Value.oneCell'])
  go_upto_region 3 with first | refine wpList_store_run rfl 56 (.tmp 7) (.tmp 17) rfl _ _ _ rfl rfl hst ?_
  have hP4 := setRow_heap (w3.alloc (.cells #[.int .i64 0, .int .i64 0, .int .i64 0, .int .i64 0, .int .i64 0, .slice none 0 0] 56)) w3.heap.size _ #[.int .i64 p.kind, .int .i64 p.src, .int .i64 p.dst, .int .i64 p.seq, .int .i64 p.ack, .slice Ap p.body.length cp] _ _ hP3
  have hx4 := hx3.trans (((Ext.refl w3).alloc (.cells #[.int .i64 0, .int .i64 0, .int .i64 0, .int .i64 0, .int .i64 0, .slice none 0 0] 56)).grown (gsetRow (w3.alloc (.cells #[.int .i64 0, .int .i64 0, .int .i64 0, .int .i64 0, .int .i64 0, .slice none 0 0] 56)) w3.heap.size #[.int .i64 p.kind, .int .i64 p.src, .int .i64 p.dst, .int .i64 p.seq, .int .i64 p.ack, .slice Ap p.body.length cp]) (fun k e => by cases e; exact Nat.le_refl _))
  have hpo4 := hpo.ext (((Ext.refl w3).alloc (.cells #[.int .i64 0, .int .i64 0, .int .i64 0, .int .i64 0, .int .i64 0, .slice none 0 0] 56)).grown (gsetRow (w3.alloc (.cells #[.int .i64 0, .int .i64 0, .int .i64 0, .int .i64 0, .int .i64 0, .slice none 0 0] 56)) w3.heap.size #[.int .i64 p.kind, .int .i64 p.src, .int .i64 p.dst, .int .i64 p.seq, .int .i64 p.ack, .slice Ap p.body.length cp]) (fun k e => by cases e; exact Nat.le_refl _))
  have hlt2 := heap_lt hZ2
  have hlt3 := hx3.size
  clear hst hP3 hx3 hpo
  generalize (w3.alloc (.cells #[.int .i64 0, .int .i64 0, .int .i64 0, .int .i64 0, .int .i64 0, .slice none 0 0] 56)).setRow w3.heap.size #[.int .i64 p.kind, .int .i64 p.src, .int .i64 p.dst, .int .i64 p.seq, .int .i64 p.ack, .slice Ap p.body.length cp] = w4 at *
  have hgp : w.heap.size + 1 < w3.heap.size := Nat.lt_of_lt_of_le hlt2 hlt3
  clear hlt3
  generalize w3.heap.size = gp at *
  have hB4 := hx4.heap hB2
  have hZ4 := hx4.heap hZ2
  have hq4 := hq2.ext hx4
  have hE4 := hE2.trans hx4
  have hlt4 := heap_lt hZ4
  have hltp := heap_lt hP4
  have hR4 : RSt 26 w4 w.heap.size e w4 := ⟨⟨_, hB4, fun W' hk => (hk.qOwn hq4 (fun x hx => by
    simp only [List.mem_cons, List.not_mem_nil, or_false] at hx
    rcases hx with rfl | rfl
    · exact ⟨_, _, _, hB4, by decide, by decide⟩
    · exact ⟨_, _, _, hZ4, by decide, by decide⟩)).in_⟩, Kept.refl _ _ _⟩
  have HPB : Hid (∀ W', Kept w4.heap.size [w.heap.size, w.heap.size + 1] w4 W' → InB W' (.slice Ap p.body.length cp) p.body) := Lib.hid fun W' hk => (hk.ownV hpo4 (fun k hk' => ⟨hpo4.lt k hk', fun hm => by
    simp only [List.mem_cons, List.not_mem_nil, or_false] at hm
    rcases hm with rfl | rfl
    · exact hpo4.ne_blk hB4 (by decide) hk'
    · exact hpo4.ne_blk hZ4 (by decide) hk'⟩)).inV
  have HPK : Hid (∀ W', Kept w4.heap.size [w.heap.size] w4 W' → W'.heap[gp]? = some (.cells #[.int .i64 p.kind, .int .i64 p.src, .int .i64 p.dst, .int .i64 p.seq, .int .i64 p.ack, .slice Ap p.body.length cp] 56 (0, 0))) := Lib.hid fun W' hk => hk.heap hP4 hltp (by simp; omega)
  have HR4 := Lib.hid hq4.in_
  clear hlt2 hB2 hZ2 hq2 hE2 hpo4 hq4 hx4
  go_cut [32] (fun s wx => ∃ bd : Bool, s = .bool bd ∧ (bd = true ↔ er ≠ 0 ∨ p.src < e.peer) ∧ RSt 26 w4 w.heap.size e wx)
  case first =>
    obtain ⟨q0, q1, q2, q3, q4, q5, q6, q7⟩ := blk8 hB4
    obtain ⟨p0, p1, p2, p3, p4, p5⟩ := blk6 hP4
    by_cases her : er = 0
    · have her' : (er != 0) = false := by simp [her]
      have HER := Lib.hid her
      clear her
      by_cases hs : p.src < e.peer
      · have hs' : decide (p.src < e.peer) = true := by simpa using hs
        go_wp2_with fail
        go_meet
        exact ⟨true, rfl, by simp [hs], hR4⟩
      · have hs' : decide (p.src < e.peer) = false := by simpa using hs
        go_wp2_with fail
        refine (consistent_any _ e w4 ⟨_, rfl, HR4.out⟩ (by have := HT.out.sent.2; omega)).mono ?_
        rintro en w5 ⟨r5, rfl, hr5, hx5⟩
        obtain rfl : r5 = true := hr5.2 HC.out
        go_wp2_with fail
        go_meet
        exact ⟨false, rfl, by simp [hs, HER.out], hR4.ext hx5⟩
    · have her' : (er != 0) = true := by simp [her]
      go_wp2_with fail
      go_meet
      exact ⟨true, rfl, by simp [her], hR4⟩
  case rest =>
    clear hR4
    obtain ⟨bd, rfl, hbd, hR⟩ := hcut
    cases bd with
    | true =>
      have HBD := Lib.hid (hbd.1 rfl)
      clear hbd
      obtain ⟨Ay, cy, hep, _, HQS⟩ := hR.form
      have hk9 := hR.kept
      have hZ9 := hk9.heap hZ4 (by omega) (by simp)
      have hE9 := hk9.ext hE4 (by omega) (by simp)
      have hld := run_loadAt_blk (P := Try.prog) wc w.heap.size 26 26 _ (0, 0) _ hep Try.underlying26 rfl ep_size
      have hst := run_storeAt_blk (P := Try.prog) wc (w.heap.size + 1) 26 26 _ #[.int .i64 (e).epoch, .int .i64 (e).peer, .int .i64 (e).acked, .int .i64 (e).sent, .int .i64 (e).got, .int .i64 (e).timer, .slice Ay (e).queue.length cy, .bool (e).owe] hZ9 ep_size rfl (by simp [Value.oneCell'])
      go_wp2_with first | refine wpList_load_run rfl 26 (.tmp 2) rfl _ _ rfl hld ?_ | refine wpList_store_run rfl 26 (.tmp 4) (.tmp 33) rfl _ _ _ rfl rfl hst ?_
      have hZ10 := setRow_heap wc (w.heap.size + 1) _ #[.int .i64 (e).epoch, .int .i64 (e).peer, .int .i64 (e).acked, .int .i64 (e).sent, .int .i64 (e).got, .int .i64 (e).timer, .slice Ay (e).queue.length cy, .bool (e).owe] _ _ hZ9
      have hg10 := gsetRow wc (w.heap.size + 1) #[.int .i64 (e).epoch, .int .i64 (e).peer, .int .i64 (e).acked, .int .i64 (e).sent, .int .i64 (e).got, .int .i64 (e).timer, .slice Ay (e).queue.length cy, .bool (e).owe]
      have hE10 := hE9.grown hg10 (fun k e => by cases e; omega)
      have hk10 : Kept w4.heap.size [w.heap.size, w.heap.size + 1] w4 (wc.setRow (w.heap.size + 1) #[.int .i64 (e).epoch, .int .i64 (e).peer, .int .i64 (e).acked, .int .i64 (e).sent, .int .i64 (e).got, .int .i64 (e).timer, .slice Ay (e).queue.length cy, .bool (e).owe]) := hk9.two.trans (Kept.of_grown hg10 hk9.size (fun k e => by cases e; exact .inr (by simp)))
      have hQ10 : ∀ W', (wc.setRow (w.heap.size + 1) #[.int .i64 (e).epoch, .int .i64 (e).peer, .int .i64 (e).acked, .int .i64 (e).sent, .int .i64 (e).got, .int .i64 (e).timer, .slice Ay (e).queue.length cy, .bool (e).owe]).heap.size ≤ W'.heap.size → (∀ i, w.heap.size ≤ i → i < (wc.setRow (w.heap.size + 1) #[.int .i64 (e).epoch, .int .i64 (e).peer, .int .i64 (e).acked, .int .i64 (e).sent, .int .i64 (e).got, .int .i64 (e).timer, .slice Ay (e).queue.length cy, .bool (e).owe]).heap.size → W'.heap[i]? = (wc.setRow (w.heap.size + 1) #[.int .i64 (e).epoch, .int .i64 (e).peer, .int .i64 (e).acked, .int .i64 (e).sent, .int .i64 (e).got, .int .i64 (e).timer, .slice Ay (e).queue.length cy, .bool (e).owe]).heap[i]?) → QIn W' (.slice Ay (e).queue.length cy) (e).queue := fun W' _ hf => HQS W' (fun i h1 h2 h3 => (hf i h1 (Nat.lt_of_lt_of_le h2 hk10.size)).trans (hk10.block i h2 h3))
      have hM10 := QOwn.nil (base := w.heap.size) (wc.setRow (w.heap.size + 1) #[.int .i64 (e).epoch, .int .i64 (e).peer, .int .i64 (e).acked, .int .i64 (e).sent, .int .i64 (e).got, .int .i64 (e).timer, .slice Ay (e).queue.length cy, .bool (e).owe])
      clear hst hld
      generalize wc.setRow (w.heap.size + 1) #[.int .i64 (e).epoch, .int .i64 (e).peer, .int .i64 (e).acked, .int .i64 (e).sent, .int .i64 (e).got, .int .i64 (e).timer, .slice Ay (e).queue.length cy, .bool (e).owe] = w10 at *
      obtain ⟨k0, k1, k2, k3, k4, k5, k6, k7⟩ := blk8 hZ10
      refine bodyPost_ret (v := .tuple #[.agg #[.int .i64 (e).epoch, .int .i64 (e).peer, .int .i64 (e).acked, .int .i64 (e).sent, .int .i64 (e).got, .int .i64 (e).timer, .slice Ay (e).queue.length cy, .bool (e).owe], .slice none 0 0, .bool false]) (by simp [results, Try.results14, go_sem, k0, k1, k2, k3, k4, k5, k6, k7]) rfl ?_
      exact ⟨_, _, e, [], false, p, er, rfl, HD.out, by rw [recvF, if_pos HBD.out], hQ10, hM10, hE10⟩
    | false =>
      have HBD : Hid (¬ (er ≠ 0 ∨ p.src < e.peer)) := Lib.hid (fun h => by have := hbd.2 h; cases this)
      clear hbd
      have her : er = 0 := Classical.byContradiction fun h => HBD.out (.inl h)
      have hnums := (DecIs.right (by have := HD.out; rwa [her] at this)).nums
      have HER := Lib.hid her
      have HNU := Lib.hid hnums
      clear her hnums
      obtain ⟨Ay, cy, hep, _, HQS⟩ := hR.form
      have HQS' := Lib.hid HQS
      clear HQS
      obtain ⟨q0, q1, q2, q3, q4, q5, q6, q7⟩ := blk8 hep
      obtain ⟨p0, p1, p2, p3, p4, p5⟩ := blk6 (HPK.out _ hR.kept)
      go_upto_if 38 with fail
      go_cut [9] (fun s wx => ∃ e1 rs, s = .bool rs ∧ (e1, rs) = recv1 e p ∧ RSt 26 w4 w.heap.size e1 wx)
      case first =>
        have f0 := blk_free hep 0
        have f1 := blk_free hep 1
        have f2 := blk_free hep 2
        have f3 := blk_free hep 3
        have f4 := blk_free hep 4
        have f5 := blk_free hep 5
        have f6 := blk_free hep 6
        have hlt6 := heap_lt hep
        by_cases hs : e.peer < p.src
        · have hs' : decide (e.peer < p.src) = true := by simpa using hs
          by_cases h0 : e.peer = 0
          · have h0' : (e.peer != 0) = false := by simp [h0]
            have H0 := Lib.hid h0
            clear h0
            go_wp2_with fail
            go_meet
            refine ⟨⟨e.epoch, p.src, 0, 0, 0, 0, e.queue, e.owe⟩, false, rfl, by rw [recv1, if_pos (by omega), if_pos H0.out]; simp [H0.out], ⟨_, blk_set (blk_set (blk_set (blk_set (blk_set hep 1 (.int .i64 p.src)) 2 (.int .i64 0)) 3 (.int .i64 0)) 4 (.int .i64 0)) 5 (.int .i64 0), HQS'.out⟩, ((((hR.kept.put 1 _).put 2 _).put 3 _).put 4 _).put 5 _⟩
          · have h0' : (e.peer != 0) = true := by simp [h0]
            have H0 := Lib.hid h0
            clear h0
            go_wp2_with fail
            go_meet
            refine ⟨⟨e.epoch, p.src, 0, 0, 0, 0, [], e.owe⟩, true, rfl, by rw [recv1, if_pos (by omega), if_neg H0.out]; simp [H0.out], ⟨_, blk_set (blk_set (blk_set (blk_set (blk_set (blk_set hep 6 (.slice none 0 0)) 1 (.int .i64 p.src)) 2 (.int .i64 0)) 3 (.int .i64 0)) 4 (.int .i64 0)) 5 (.int .i64 0), fun W' _ => QIn.nil W'⟩, (((((hR.kept.put 6 _).put 1 _).put 2 _).put 3 _).put 4 _).put 5 _⟩
        · have hs' : decide (e.peer < p.src) = false := by simpa using hs
          go_wp2_with fail
          go_meet
          exact ⟨e, false, rfl, by rw [recv1, if_neg (by omega)], hR⟩
      case rest =>
        clear hR hep HQS' q0 q1 q2 q3 q4 q5 q6 q7 p0 p1 p2 p3 p4 p5
        obtain ⟨e1, rs, rfl, hr1, hR⟩ := hcut
        have hm1 : e1.epoch = e.epoch ∧ tame e1.acked ∧ tame e1.sent ∧ tame e1.got ∧ e1.queue.length ≤ 1000 := recv1_tame HT.out hr1
        have HR1 := Lib.hid hr1
        clear hr1
        obtain ⟨hm1, hm2, hm3, hm4, hm5⟩ := hm1
        have HM2 := Lib.hid hm2
        have HM3 := Lib.hid hm3
        have HM4 := Lib.hid hm4
        clear hm2 hm3 hm4
        by_cases hd : p.dst = e.epoch
        · have hd' : (p.dst != e.epoch) = false := by simp [hd]
          have HDD := Lib.hid hd
          clear hd
          obtain ⟨Ay, cy, hep, hcy, HQS⟩ := hR.form
          rw [hm1] at hep
          have HQS' := Lib.hid HQS
          clear HQS
          have hep0 := hep
          obtain ⟨q0, q1, q2, q3, q4, q5, q6, q7⟩ := blk8 hep
          obtain ⟨p0, p1, p2, p3, p4, p5⟩ := blk6 (HPK.out _ hR.kept)
          have hwr : IntKind.i64.wrap (p.ack - e1.acked) = p.ack - e1.acked := by have h1 := HM2.out; have h2 := HNU.out; unfold tame at h1; rw [IntKind.wrap_i64]; omega
          go_upto_region 16 with fail
          go_cut [9, 71] (fun s x wx => s = .bool rs ∧ x = .bool (decide (e1.acked < p.ack ∧ p.ack ≤ e1.acked + e1.queue.length)) ∧ wc = wx)
          case first =>
            by_cases t1 : 0 < p.ack - e1.acked
            · have t1' : decide (0 < p.ack - e1.acked) = true := by simpa using t1
              by_cases t2 : p.ack - e1.acked ≤ e1.queue.length
              · have t2' : decide (p.ack - e1.acked ≤ (e1.queue.length : Int)) = true := by simpa using t2
                have HG : Hid (decide (e1.acked < p.ack ∧ p.ack ≤ e1.acked + e1.queue.length) = true) := Lib.hid (by simp; omega)
                go_wp2_with fail
                go_meet
                exact ⟨rfl, by rw [HG.out], rfl⟩
              · have t2' : decide (p.ack - e1.acked ≤ (e1.queue.length : Int)) = false := by simpa using t2
                have HG : Hid (decide (e1.acked < p.ack ∧ p.ack ≤ e1.acked + e1.queue.length) = false) := Lib.hid (by simp; omega)
                go_wp2_with fail
                go_meet
                exact ⟨rfl, by rw [HG.out], rfl⟩
            · have t1' : decide (0 < p.ack - e1.acked) = false := by simpa using t1
              have HG : Hid (decide (e1.acked < p.ack ∧ p.ack ≤ e1.acked + e1.queue.length) = false) := Lib.hid (by simp; omega)
              go_wp2_with fail
              go_meet
              exact ⟨rfl, by rw [HG.out], rfl⟩
          case rest =>
            obtain ⟨rfl, rfl, rfl⟩ := hcut
            go_upto_if 71 with fail
            go_cut [9] (fun s wx => s = .bool rs ∧ RSt 26 w4 w.heap.size (recv2 e1 p) wx)
            case first =>
              by_cases ha : e1.acked < p.ack ∧ p.ack ≤ e1.acked + e1.queue.length
              · rw [decide_eq_true ha]
                obtain ⟨n, hn⟩ : ∃ n : Nat, p.ack - e1.acked = n := ⟨(p.ack - e1.acked).toNat, by omega⟩
                obtain ⟨A', c', hsl, hsq⟩ := QIn_suf Ay cy n e1.queue (by omega) hcy
                rw [← hn] at hsl
                have HSQ := Lib.hid hsq
                have H2 : Hid (recv2 e1 p = ⟨e1.epoch, e1.peer, p.ack, max e1.sent p.ack, e1.got, e1.timer, e1.queue.drop n, e1.owe⟩) := Lib.hid (by rw [recv2, if_pos ha, show (p.ack - e1.acked).toNat = n by omega])
                clear ha hn hsq
                have f2 := blk_free hep0 2
                have f3 := blk_free hep0 3
                have f6 := blk_free hep0 6
                have hlt6 := heap_lt hep0
                by_cases hmx : e1.sent < p.ack
                · have HMX : Hid (max e1.sent p.ack = p.ack) := Lib.hid (by omega)
                  go_wp2_with fail
                  go_meet
                  refine ⟨rfl, ?_⟩
                  rw [H2.out, HMX.out]
                  exact ⟨⟨_, by rw [hm1]; exact blk_set (blk_set (blk_set hep0 6 (.slice A' (e1.queue.length - n) c')) 2 (.int .i64 p.ack)) 3 (.int .i64 p.ack), fun W' hk => HSQ.out W' (HQS'.out W' hk)⟩, ((hR.kept.put 6 _).put 2 _).put 3 _⟩
                · have HMX : Hid (max e1.sent p.ack = e1.sent) := Lib.hid (by omega)
                  go_wp2_with fail
                  go_meet
                  refine ⟨rfl, ?_⟩
                  rw [H2.out, HMX.out]
                  exact ⟨⟨_, by rw [hm1]; exact blk_set (blk_set (blk_set hep0 6 (.slice A' (e1.queue.length - n) c')) 2 (.int .i64 p.ack)) 3 (.int .i64 e1.sent), fun W' hk => HSQ.out W' (HQS'.out W' hk)⟩, ((hR.kept.put 6 _).put 2 _).put 3 _⟩
              · rw [decide_eq_false ha]
                have H2 : Hid (recv2 e1 p = e1) := Lib.hid (by rw [recv2, if_neg ha])
                clear ha
                go_wp2_with fail
                go_meet
                exact ⟨rfl, by rw [H2.out]; exact hR⟩
            case rest =>
              have hgt : tame (recv2 e1 p).got := by
                have := HM4.out
                unfold recv2
                split <;> exact this
              clear hR hep hep0 HQS' q0 q1 q2 q3 q4 q5 q6 q7 p0 p1 p2 p3 p4 p5
              obtain ⟨rfl, hR⟩ := hcut
              obtain ⟨e2, he2⟩ : ∃ e2, e2 = recv2 e1 p := ⟨_, rfl⟩
              rw [← he2] at hR hgt
              have HE2 := Lib.hid he2
              have HGT := Lib.hid hgt
              clear he2 hgt
              obtain ⟨Ay, cy, hep, hcy, HQS⟩ := hR.form
              have HQS' := Lib.hid HQS
              clear HQS
              obtain ⟨q0, q1, q2, q3, q4, q5, q6, q7⟩ := blk8 hep
              have HBY := Lib.hid (HPB.out _ hR.kept.two)
              have hP := HPK.out _ hR.kept
              obtain ⟨p0, p1, p2, p3, p4, p5⟩ := blk6 hP
              have hwr : IntKind.i64.wrap (e2.got + 1) = e2.got + 1 := by have h1 := HGT.out; unfold tame at h1; rw [IntKind.wrap_i64]; omega
              have f4 := blk_free hep 4
              have f7 := blk_free hep 7
              have hlt6 := heap_lt hep
              go_upto_block 0 with fail
              go_cut [9, 11] (fun s m wx => s = .bool rs ∧ RSt 26 w4 w.heap.size (recv3 e2 p).1 wx ∧ QOwn w4.heap.size wx m (recv3 e2 p).2)
              case first =>
                by_cases k2 : p.kind = 2
                · have k2' : (p.kind == 2) = true := by simp [k2]
                  have K2 := Lib.hid k2
                  clear k2
                  by_cases hs : p.seq = e2.got + 1
                  · have hs' : (p.seq == e2.got + 1) = true := by simp [hs]
                    have H3 : Hid (recv3 e2 p = (⟨e2.epoch, e2.peer, e2.acked, e2.sent, e2.got + 1, e2.timer, e2.queue, true⟩, [p.body])) := Lib.hid (by rw [recv3, if_pos K2.out, if_pos hs])
                    have hbl := HNU.out.2.2.2.2
                    clear hs
                    go_wp2_with (at_builtin; go_must (refine wpList_appendV elem_u8 (fun _ => rfl) rfl (.const (.slice none 0 0)) (.tmp 98) rfl w4.heap.size _ [] rfl (OwnV.nil _) _ p.body rfl HBY.out (by simp; omega) (by omega) hR.kept.size (Hold.out ?_)))
                    refine Hold.mk fun v5 w5 ho5 hg5 => ?_
                    have hX5 : Ext wc w5 := hg5.ext (Ext.refl wc) (by simp [Value.ownBlock])
                    obtain ⟨A5, c5, rfl, _, _⟩ := ho5.inV
                    obtain ⟨z, hzb, hzv⟩ : ∃ z : Body, z.b = p.body ∧ bodyV z = .slice A5 p.body.length c5 := ⟨⟨A5, p.body.length, c5, p.body⟩, rfl, rfl⟩
                    have hA6 := (Ext.refl w5).alloc (.cells #[.slice A5 p.body.length c5] 32)
                    have hn6 := OwnV_new (f := bodyV) w5 z 32
                    rw [hzv] at hn6
                    have hs6 := Nat.le_trans hR.kept.size (hX5.trans hA6).size
                    go_wp2_with (at_builtin; go_must (refine wpList_appendV elem_bs (fun _ => rfl) rfl (.tmp 96) (.tmp 100) rfl w4.heap.size _ [] rfl (OwnV.nil _) _ [z] rfl hn6.inV (by simp) (by omega) hs6 (Hold.out ?_)))
                    refine Hold.mk fun v7 w7 ho7 hg7 => ?_
                    have hX7 : Ext wc w7 := (hX5.trans hA6).trans (hg7.ext (Ext.refl _) (by simp [Value.ownBlock]))
                    have hzz : OwnV bv 5 w4.heap.size (w5.alloc (.cells #[.slice A5 p.body.length c5] 32)) (bodyV z) z.b := by rw [hzb, hzv]; exact ho5.ext hA6
                    have hq7 := QOwn.add (q := []) rfl (OwnV.nil _) (by simp) hzz hg7 ho7
                    rw [hzb, List.nil_append] at hq7
                    have hR7 := hR.ext hX7
                    have hep7 := hX7.heap hep
                    have hP7 := hX7.heap hP
                    clear hg5 hg7 ho5 ho7 hA6 hn6 hzz hs6 hX7 hX5 hzb hzv hep hP hR q0 q1 q2 q3 q4 q5 q6 q7 p0 p1 p2 p3 p4 p5 f4 f7 hlt6
                    obtain ⟨q0, q1, q2, q3, q4, q5, q6, q7⟩ := blk8 hep7
                    have f4 := blk_free hep7 4
                    have f7 := blk_free hep7 7
                    have hlt6 := heap_lt hep7
                    go_wp2_with fail
                    go_meet
                    rw [H3.out]
                    have hg8 := gset w7 ⟨w.heap.size, 4, none⟩ (.int .i64 (e2.got + 1))
                    have hep8 := blk_set hep7 4 (.int .i64 (e2.got + 1))
                    exact ⟨rfl, ⟨⟨_, blk_set hep8 7 (.bool true), HQS'.out⟩, (hR7.kept.put 4 _).put 7 _⟩, (hq7.far hg8 hep7 (by decide) (by decide)).far (gset _ ⟨w.heap.size, 7, none⟩ (.bool true)) hep8 (by decide) (by decide)⟩
                  · have hs' : (p.seq == e2.got + 1) = false := by simp [hs]
                    have H3 : Hid (recv3 e2 p = (e2.owes, [])) := Lib.hid (by rw [recv3, if_pos K2.out, if_neg hs])
                    clear hs
                    go_wp2_with fail
                    go_meet
                    rw [H3.out]
                    exact ⟨rfl, ⟨⟨_, by unfold EP.owes; exact blk_set hep 7 (.bool true), HQS'.out⟩, hR.kept.put 7 _⟩, QOwn.nil _⟩
                · have k2' : (p.kind == 2) = false := by simp [k2]
                  by_cases k1 : p.kind = 1
                  · have k1' : (p.kind == 1) = true := by simp [k1]
                    have H3 : Hid (recv3 e2 p = (e2.owes, [])) := Lib.hid (by rw [recv3, if_neg k2, if_pos k1])
                    clear k1 k2
                    go_wp2_with fail
                    go_meet
                    rw [H3.out]
                    exact ⟨rfl, ⟨⟨_, by unfold EP.owes; exact blk_set hep 7 (.bool true), HQS'.out⟩, hR.kept.put 7 _⟩, QOwn.nil _⟩
                  · have k1' : (p.kind == 1) = false := by simp [k1]
                    have H3 : Hid (recv3 e2 p = (e2, [])) := Lib.hid (by rw [recv3, if_neg k2, if_neg k1])
                    clear k1 k2
                    go_wp2_with fail
                    go_meet
                    rw [H3.out]
                    exact ⟨rfl, hR, QOwn.nil _⟩
              case rest =>
                clear hR hep HQS' q0 q1 q2 q3 q4 q5 q6 q7 p0 p1 p2 p3 p4 p5 hP f4 f7 hlt6
                obtain ⟨rfl, hR, hqm⟩ := hcut
                obtain ⟨Am, cm, rfl, _⟩ := hqm.in_.form
                have HRF : Hid (recvF e p er = ((recv3 e2 p).1, (recv3 e2 p).2, rs)) := Lib.hid (by
                  have e1p : e1 = (recv1 e p).1 := by rw [← HR1.out]
                  have e2p : rs = (recv1 e p).2 := by rw [← HR1.out]
                  rw [recvF, if_neg HBD.out, if_neg (fun h => h HDD.out), ← e1p, ← e2p, HE2.out])
                generalize (recv3 e2 p).1 = e3 at *
                generalize (recv3 e2 p).2 = ms at *
                obtain ⟨Ay, cy, hep, _, HQS⟩ := hR.form
                have hk9 := hR.kept
                have hZ9 := hk9.heap hZ4 (by omega) (by simp)
                have hE9 := hk9.ext hE4 (by omega) (by simp)
                have hld := run_loadAt_blk (P := Try.prog) wc w.heap.size 26 26 _ (0, 0) _ hep Try.underlying26 rfl ep_size
                have hst := run_storeAt_blk (P := Try.prog) wc (w.heap.size + 1) 26 26 _ #[.int .i64 (e3).epoch, .int .i64 (e3).peer, .int .i64 (e3).acked, .int .i64 (e3).sent, .int .i64 (e3).got, .int .i64 (e3).timer, .slice Ay (e3).queue.length cy, .bool (e3).owe] hZ9 ep_size rfl (by simp [Value.oneCell'])
                go_wp2_with first | refine wpList_load_run rfl 26 (.tmp 2) rfl _ _ rfl hld ?_ | refine wpList_store_run rfl 26 (.tmp 4) (.tmp 110) rfl _ _ _ rfl rfl hst ?_
                have hZ10 := setRow_heap wc (w.heap.size + 1) _ #[.int .i64 (e3).epoch, .int .i64 (e3).peer, .int .i64 (e3).acked, .int .i64 (e3).sent, .int .i64 (e3).got, .int .i64 (e3).timer, .slice Ay (e3).queue.length cy, .bool (e3).owe] _ _ hZ9
                have hg10 := gsetRow wc (w.heap.size + 1) #[.int .i64 (e3).epoch, .int .i64 (e3).peer, .int .i64 (e3).acked, .int .i64 (e3).sent, .int .i64 (e3).got, .int .i64 (e3).timer, .slice Ay (e3).queue.length cy, .bool (e3).owe]
                have hE10 := hE9.grown hg10 (fun k e => by cases e; omega)
                have hk10 : Kept w4.heap.size [w.heap.size, w.heap.size + 1] w4 (wc.setRow (w.heap.size + 1) #[.int .i64 (e3).epoch, .int .i64 (e3).peer, .int .i64 (e3).acked, .int .i64 (e3).sent, .int .i64 (e3).got, .int .i64 (e3).timer, .slice Ay (e3).queue.length cy, .bool (e3).owe]) := hk9.two.trans (Kept.of_grown hg10 hk9.size (fun k e => by cases e; exact .inr (by simp)))
                have hQ10 : ∀ W', (wc.setRow (w.heap.size + 1) #[.int .i64 (e3).epoch, .int .i64 (e3).peer, .int .i64 (e3).acked, .int .i64 (e3).sent, .int .i64 (e3).got, .int .i64 (e3).timer, .slice Ay (e3).queue.length cy, .bool (e3).owe]).heap.size ≤ W'.heap.size → (∀ i, w.heap.size ≤ i → i < (wc.setRow (w.heap.size + 1) #[.int .i64 (e3).epoch, .int .i64 (e3).peer, .int .i64 (e3).acked, .int .i64 (e3).sent, .int .i64 (e3).got, .int .i64 (e3).timer, .slice Ay (e3).queue.length cy, .bool (e3).owe]).heap.size → W'.heap[i]? = (wc.setRow (w.heap.size + 1) #[.int .i64 (e3).epoch, .int .i64 (e3).peer, .int .i64 (e3).acked, .int .i64 (e3).sent, .int .i64 (e3).got, .int .i64 (e3).timer, .slice Ay (e3).queue.length cy, .bool (e3).owe]).heap[i]?) → QIn W' (.slice Ay (e3).queue.length cy) (e3).queue := fun W' _ hf => HQS W' (fun i h1 h2 h3 => (hf i h1 (Nat.lt_of_lt_of_le h2 hk10.size)).trans (hk10.block i h2 h3))
                have hM10 := (hqm.far hg10 hZ9 (by decide) (by decide)).low hE4.size
                clear hst hld
                generalize wc.setRow (w.heap.size + 1) #[.int .i64 (e3).epoch, .int .i64 (e3).peer, .int .i64 (e3).acked, .int .i64 (e3).sent, .int .i64 (e3).got, .int .i64 (e3).timer, .slice Ay (e3).queue.length cy, .bool (e3).owe] = w10 at *
                obtain ⟨k0, k1, k2, k3, k4, k5, k6, k7⟩ := blk8 hZ10
                refine bodyPost_ret (v := .tuple #[.agg #[.int .i64 (e3).epoch, .int .i64 (e3).peer, .int .i64 (e3).acked, .int .i64 (e3).sent, .int .i64 (e3).got, .int .i64 (e3).timer, .slice Ay (e3).queue.length cy, .bool (e3).owe], .slice Am ms.length cm, .bool rs]) (by simp [results, Try.results14, go_sem, k0, k1, k2, k3, k4, k5, k6, k7]) rfl ?_
                exact ⟨_, _, e3, ms, rs, p, er, rfl, HD.out, by rw [HRF.out], hQ10, hM10, hE10⟩
        · have hd' : (p.dst != e.epoch) = true := by simp [hd]
          have HDD := Lib.hid hd
          clear hd
          obtain ⟨Ay, cy, hep, _, HQS⟩ := hR.form
          rw [hm1] at hep
          obtain ⟨q0, q1, q2, q3, q4, q5, q6, q7⟩ := blk8 hep
          obtain ⟨p0, p1, p2, p3, p4, p5⟩ := blk6 (HPK.out _ hR.kept)
          have f7 := blk_free hep 7
          have hlt6 := heap_lt hep
          have HQS' := Lib.hid HQS
          clear HQS
          go_upto_region 14 with fail
          have hR2 : RSt 26 w4 w.heap.size e1.owes (wc.setCell ⟨w.heap.size, 7, none⟩ (.bool true)) := ⟨⟨_, by rw [EP.owes, hm1]; exact blk_set hep 7 (.bool true), HQS'.out⟩, hR.kept.put 7 _⟩
          clear hR q0 q1 q2 q3 q4 q5 q6 q7 f7 hlt6 hep HQS' p0 p1 p2 p3 p4 p5
          generalize wc.setCell ⟨w.heap.size, 7, none⟩ (.bool true) = wd at *
          have hR := hR2
          clear hR2
          obtain ⟨Ay, cy, hep, _, HQS⟩ := hR.form
          have hk9 := hR.kept
          have hZ9 := hk9.heap hZ4 (by omega) (by simp)
          have hE9 := hk9.ext hE4 (by omega) (by simp)
          have hld := run_loadAt_blk (P := Try.prog) wd w.heap.size 26 26 _ (0, 0) _ hep Try.underlying26 rfl ep_size
          have hst := run_storeAt_blk (P := Try.prog) wd (w.heap.size + 1) 26 26 _ #[.int .i64 (e1.owes).epoch, .int .i64 (e1.owes).peer, .int .i64 (e1.owes).acked, .int .i64 (e1.owes).sent, .int .i64 (e1.owes).got, .int .i64 (e1.owes).timer, .slice Ay (e1.owes).queue.length cy, .bool (e1.owes).owe] hZ9 ep_size rfl (by simp [Value.oneCell'])
          go_wp2_with first | refine wpList_load_run rfl 26 (.tmp 2) rfl _ _ rfl hld ?_ | refine wpList_store_run rfl 26 (.tmp 4) (.tmp 56) rfl _ _ _ rfl rfl hst ?_
          have hZ10 := setRow_heap wd (w.heap.size + 1) _ #[.int .i64 (e1.owes).epoch, .int .i64 (e1.owes).peer, .int .i64 (e1.owes).acked, .int .i64 (e1.owes).sent, .int .i64 (e1.owes).got, .int .i64 (e1.owes).timer, .slice Ay (e1.owes).queue.length cy, .bool (e1.owes).owe] _ _ hZ9
          have hg10 := gsetRow wd (w.heap.size + 1) #[.int .i64 (e1.owes).epoch, .int .i64 (e1.owes).peer, .int .i64 (e1.owes).acked, .int .i64 (e1.owes).sent, .int .i64 (e1.owes).got, .int .i64 (e1.owes).timer, .slice Ay (e1.owes).queue.length cy, .bool (e1.owes).owe]
          have hE10 := hE9.grown hg10 (fun k e => by cases e; omega)
          have hk10 : Kept w4.heap.size [w.heap.size, w.heap.size + 1] w4 (wd.setRow (w.heap.size + 1) #[.int .i64 (e1.owes).epoch, .int .i64 (e1.owes).peer, .int .i64 (e1.owes).acked, .int .i64 (e1.owes).sent, .int .i64 (e1.owes).got, .int .i64 (e1.owes).timer, .slice Ay (e1.owes).queue.length cy, .bool (e1.owes).owe]) := hk9.two.trans (Kept.of_grown hg10 hk9.size (fun k e => by cases e; exact .inr (by simp)))
          have hQ10 : ∀ W', (wd.setRow (w.heap.size + 1) #[.int .i64 (e1.owes).epoch, .int .i64 (e1.owes).peer, .int .i64 (e1.owes).acked, .int .i64 (e1.owes).sent, .int .i64 (e1.owes).got, .int .i64 (e1.owes).timer, .slice Ay (e1.owes).queue.length cy, .bool (e1.owes).owe]).heap.size ≤ W'.heap.size → (∀ i, w.heap.size ≤ i → i < (wd.setRow (w.heap.size + 1) #[.int .i64 (e1.owes).epoch, .int .i64 (e1.owes).peer, .int .i64 (e1.owes).acked, .int .i64 (e1.owes).sent, .int .i64 (e1.owes).got, .int .i64 (e1.owes).timer, .slice Ay (e1.owes).queue.length cy, .bool (e1.owes).owe]).heap.size → W'.heap[i]? = (wd.setRow (w.heap.size + 1) #[.int .i64 (e1.owes).epoch, .int .i64 (e1.owes).peer, .int .i64 (e1.owes).acked, .int .i64 (e1.owes).sent, .int .i64 (e1.owes).got, .int .i64 (e1.owes).timer, .slice Ay (e1.owes).queue.length cy, .bool (e1.owes).owe]).heap[i]?) → QIn W' (.slice Ay (e1.owes).queue.length cy) (e1.owes).queue := fun W' _ hf => HQS W' (fun i h1 h2 h3 => (hf i h1 (Nat.lt_of_lt_of_le h2 hk10.size)).trans (hk10.block i h2 h3))
          have hM10 := QOwn.nil (base := w.heap.size) (wd.setRow (w.heap.size + 1) #[.int .i64 (e1.owes).epoch, .int .i64 (e1.owes).peer, .int .i64 (e1.owes).acked, .int .i64 (e1.owes).sent, .int .i64 (e1.owes).got, .int .i64 (e1.owes).timer, .slice Ay (e1.owes).queue.length cy, .bool (e1.owes).owe])
          clear hst hld
          generalize wd.setRow (w.heap.size + 1) #[.int .i64 (e1.owes).epoch, .int .i64 (e1.owes).peer, .int .i64 (e1.owes).acked, .int .i64 (e1.owes).sent, .int .i64 (e1.owes).got, .int .i64 (e1.owes).timer, .slice Ay (e1.owes).queue.length cy, .bool (e1.owes).owe] = w10 at *
          obtain ⟨k0, k1, k2, k3, k4, k5, k6, k7⟩ := blk8 hZ10
          refine bodyPost_ret (v := .tuple #[.agg #[.int .i64 (e1.owes).epoch, .int .i64 (e1.owes).peer, .int .i64 (e1.owes).acked, .int .i64 (e1.owes).sent, .int .i64 (e1.owes).got, .int .i64 (e1.owes).timer, .slice Ay (e1.owes).queue.length cy, .bool (e1.owes).owe], .slice none 0 0, .bool rs]) (by simp [results, Try.results14, go_sem, k0, k1, k2, k3, k4, k5, k6, k7]) rfl ?_
          exact ⟨_, _, e1.owes, [], rs, p, er, rfl, HD.out, by rw [recvF, if_neg HBD.out, if_pos HDD.out, ← HR1.out], hQ10, hM10, hE10⟩
theorem Receive_any (v x : Value) (e : EP) (b : List UInt8) (w : World) (he : EPAt w v e) (hx : InB w x b) (ht : e.Tame) (hc : e.Cons) (hb : b.length ≤ 1000000) :
    Calls Try.prog 14 #[v, x] w (RecvPost e b w) := (Receive_own v x e b w he hx ht hc hb).mono fun en w' ⟨y, ym, e', ms, rs, p, er, h1, h2, h3, h4, h5, h6⟩ => ⟨y, ym, e', ms, rs, p, er, h1, h2, h3, h4 w' (Nat.le_refl _) (fun _ _ _ => rfl), h5.in_, h6⟩
end Go.Proofs.Ytnobepobalpccaa
