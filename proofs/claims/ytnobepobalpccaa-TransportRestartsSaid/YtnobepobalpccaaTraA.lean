/- Endpoints in memory; New, clone, consistent, Push of the program and of the reference. -/
import Derived.Test.YtnobepobalpccaaBlk
namespace Go.Proofs.Ytnobepobalpccaa
open Go.RowKit
set_option linter.unusedVariables false

/-- a body of a queue: where it lies, and its bytes -/
structure Body where
  A : Option Addr
  n : Nat
  c : Nat
  b : List UInt8
def bodyV (z : Body) : Value := .slice z.A z.n z.c
theorem bs_info : (Try.prog.info? 32).map (fun i => (i.zero, i.size, i.bytes)) = some (some (.slice none 0 0), 1, 24) := by kernel_rfl
theorem elem_bs : Elem1 Try.prog 24 32 24 := by
  obtain ⟨i0, hi, hz0, hz1, hz2⟩ := info_parts bs_info
  exact ⟨Try.underlying24, i0, _, hi, hz0, hz1, hz2, rfl⟩
theorem InB.body {w : World} {v : Value} {l : List UInt8} (h : InB w v l) : ∃ z : Body, z.b = l ∧ bodyV z = v := by
  obtain ⟨A, c, rfl, _⟩ := h
  exact ⟨⟨A, l.length, c, l⟩, rfl, rfl⟩
/-- messages in memory -/
def QIn (w : World) (y : Value) (q : List (List UInt8)) : Prop := ∃ zs : List Body, zs.map Body.b = q ∧ InV bodyV w y zs ∧ ∀ z ∈ zs, InB w (bodyV z) z.b
/-- messages in rows of their own -/
def QOwn (base : Nat) (w : World) (y : Value) (q : List (List UInt8)) : Prop := ∃ zs : List Body, zs.map Body.b = q ∧ OwnV bodyV 32 base w y zs ∧ ∀ z ∈ zs, OwnV bv 5 base w (bodyV z) z.b
section
variable {base : Nat} {w w' : World} {y y' : Value} {q : List (List UInt8)}
theorem QIn.ext (h : QIn w y q) (he : Ext w w') : QIn w' y q := by
  obtain ⟨zs, h1, h2, h3⟩ := h
  exact ⟨zs, h1, h2.ext he, fun z hz => (h3 z hz).ext he⟩
theorem QIn.nil (w : World) : QIn w (.slice none 0 0) [] := ⟨[], rfl, InV.nil w, by simp⟩
theorem QIn.form (h : QIn w y q) : ∃ A c, y = .slice A q.length c ∧ q.length ≤ c := by
  obtain ⟨zs, rfl, ⟨A, c, rfl, hc, _⟩, _⟩ := h
  exact ⟨A, c, by simp, by simpa using hc⟩
theorem QIn.at_ {A : Option Addr} {n c : Nat} (h : QIn w (.slice A n c) q) {j : Nat} (hj : j < q.length) : ∃ b off x, A = some ⟨b, off, none⟩ ∧ w.cell? ⟨b, off + j, none⟩ = some x ∧ InB w x q[j] := by
  obtain ⟨zs, rfl, ⟨A', c', e, _, hr⟩, h3⟩ := h
  cases e
  have hj' : j < zs.length := by simpa using hj
  obtain ⟨b, off, rfl, hc⟩ := hr.at2 (k := j) (by simpa using hj')
  refine ⟨b, off, bodyV zs[j], rfl, by rw [hc]; simp, ?_⟩
  have := h3 zs[j] (List.getElem_mem hj')
  simpa using this
theorem QOwn.in_ (h : QOwn base w y q) : QIn w y q := by
  obtain ⟨zs, h1, h2, h3⟩ := h
  exact ⟨zs, h1, h2.inV, fun z hz => (h3 z hz).inV⟩
theorem QOwn.nil (w : World) : QOwn base w (.slice none 0 0) [] := ⟨[], rfl, OwnV.nil w, by simp⟩
theorem QOwn.ext (h : QOwn base w y q) (he : Ext w w') : QOwn base w' y q := by
  obtain ⟨zs, h1, h2, h3⟩ := h
  exact ⟨zs, h1, h2.ext he, fun z hz => (h3 z hz).ext he⟩
theorem QOwn.low {base' : Nat} (h : QOwn base w y q) (hb : base' ≤ base) : QOwn base' w y q := by
  obtain ⟨zs, h1, h2, h3⟩ := h
  exact ⟨zs, h1, h2.low hb, fun z hz => (h3 z hz).low hb⟩
theorem QOwn.far {g : Nat} {cs : Array Value} {t : TypeId} {fr : Nat × Nat} (h : QOwn base w y q) (hg : w.grownBy w' (some g)) (hb : w.heap[g]? = some (.cells cs t fr)) (t1 : 32 ≠ t) (t2 : 5 ≠ t) : QOwn base w' y q := by
  obtain ⟨zs, h1, h2, h3⟩ := h
  exact ⟨zs, h1, h2.kept hg (.inr (h2.ne_blk hb t1)), fun z hz => (h3 z hz).kept hg (.inr ((h3 z hz).ne_blk hb t2))⟩
theorem QOwn.add {z : Body} {zs : List Body} (hq : zs.map Body.b = q) (ho : OwnV bodyV 32 base w y zs) (h3 : ∀ z ∈ zs, OwnV bv 5 base w (bodyV z) z.b) (hz : OwnV bv 5 base w (bodyV z) z.b) (hg : Grew w w' y y') (ho' : OwnV bodyV 32 base w' y' (zs ++ [z])) : QOwn base w' y' (q ++ [z.b]) := by
  refine ⟨zs ++ [z], by rw [List.map_append, hq]; rfl, ho', fun x hx => ?_⟩
  rcases List.mem_append.1 hx with hx | hx
  · exact (h3 x hx).kept hg.grown (row_ne (h3 x hx) ho (by decide))
  · simp only [List.mem_singleton] at hx; subst hx; exact hz.kept hg.grown (row_ne hz ho (by decide))
end
/-- an endpoint -/
structure EP where
  epoch : Int
  peer : Int
  acked : Int
  sent : Int
  got : Int
  timer : Int
  queue : List (List UInt8)
  owe : Bool
def EPAt (w : World) (v : Value) (e : EP) : Prop := ∃ y, v = .agg #[.int .i64 e.epoch, .int .i64 e.peer, .int .i64 e.acked, .int .i64 e.sent, .int .i64 e.got, .int .i64 e.timer, y, .bool e.owe] ∧ QIn w y e.queue
theorem EPAt.ext {w w' : World} {v : Value} {e : EP} (h : EPAt w v e) (he : Ext w w') : EPAt w' v e := by
  obtain ⟨y, rfl, hy⟩ := h
  exact ⟨y, rfl, hy.ext he⟩
def ep0 : EP := ⟨0, 0, 0, 0, 0, 0, [], false⟩
def newE (n : Int) : EP := ⟨n, 0, 0, 0, 0, 0, [], false⟩
structure EP.Mid (e : EP) : Prop where
  queue : e.queue.length ≤ 1000000
  bodies : ∀ b ∈ e.queue, b.length ≤ 1000000
theorem blk8 {w : World} {g : Nat} {a0 a1 a2 a3 a4 a5 a6 a7 : Value} {t : TypeId} (H : w.heap[g]? = some (.cells #[a0, a1, a2, a3, a4, a5, a6, a7] t (0, 0))) :
    w.cell? ⟨g, 0, none⟩ = some a0 ∧ w.cell? ⟨g, 1, none⟩ = some a1 ∧ w.cell? ⟨g, 2, none⟩ = some a2 ∧ w.cell? ⟨g, 3, none⟩ = some a3 ∧ w.cell? ⟨g, 4, none⟩ = some a4 ∧ w.cell? ⟨g, 5, none⟩ = some a5 ∧ w.cell? ⟨g, 6, none⟩ = some a6 ∧ w.cell? ⟨g, 7, none⟩ = some a7 :=
  ⟨blk_at H 0 _ rfl, blk_at H 1 _ rfl, blk_at H 2 _ rfl, blk_at H 3 _ rfl, blk_at H 4 _ rfl, blk_at H 5 _ rfl, blk_at H 6 _ rfl, blk_at H 7 _ rfl⟩
theorem ep_size : (Try.prog.info? 26).map (·.size) = some 8 := by kernel_rfl
/-- what clone leaves behind -/
def ClonePost (e : EP) (w : World) (en : Ending) (w' : World) : Prop := ∃ y, en = .returned (.agg #[.int .i64 e.epoch, .int .i64 e.peer, .int .i64 e.acked, .int .i64 e.sent, .int .i64 e.got, .int .i64 e.timer, y, .bool e.owe]) ∧ QOwn w.heap.size w' y e.queue ∧ Ext w w'
theorem run_make_room (n : Nat) (hn : n ≤ 1000000) (w : World) : (Instr.makeSlice 24 (.int .i64 0) (.int .i64 ((n : Int) + 1))).run Try.prog w = .ok (.slice (some ⟨w.heap.size, 0, none⟩) 0 (n + 1)) (w.alloc (.cells (madeCells #[.slice none 0 0] (n + 1)) 32)) := by
  obtain ⟨i0, hi, hz0, hz1, hz2⟩ := info_parts bs_info
  have hr := run_make (P := Try.prog) w 24 32 i0 _ Try.underlying24 hi hz0 .i64 .i64 0 ((n : Int) + 1) (by omega) (by omega) (by rw [hz2]; omega) (by omega)
  have e1 : ((n : Int) + 1).toNat = n + 1 := by omega
  simp only [e1, hz1, Nat.mul_one] at hr
  exact hr
theorem own_made (n : Nat) (hn : n ≤ 1000000) (w : World) : OwnV bodyV 32 w.heap.size (w.alloc (.cells (madeCells #[.slice none 0 0] (n + 1)) 32)) (.slice (some ⟨w.heap.size, 0, none⟩) 0 (n + 1)) [] :=
  ⟨by simp, .inr ⟨w.heap.size, n + 1, _, rfl, Nat.le_refl _, heap_alloc_new w _, by simp, by simp only [maxLen]; omega, by simp [madeCells], by simp⟩⟩
set_option maxHeartbeats 1000000 in
set_option maxRecDepth 100000 in
theorem clone_any (v : Value) (e : EP) (w : World) (he : EPAt w v e) (hm : e.Mid) :
    Calls Try.prog 15 #[v] w (ClonePost e w) := by
  obtain ⟨y, rfl, hq⟩ := he
  obtain ⟨A, c, rfl, _⟩ := hq.form
  have HQ := Lib.hid hq
  have HM := Lib.hid hm
  have hml := hm.queue
  clear hq hm
  have hmk := run_make_room e.queue.length hml
  have hwr : IntKind.i64.wrap ((e.queue.length : Int) + 1) = (e.queue.length : Int) + 1 := by rw [IntKind.wrap_i64]; omega
  go_enter Try.func15, Try.ntmps15
  go_upto_region 1 with fail
  obtain ⟨W, hW, hE, hB, hZ⟩ : ∃ W, W = (w.alloc (.cells #[.int .i64 e.epoch, .int .i64 e.peer, .int .i64 e.acked, .int .i64 e.sent, .int .i64 e.got, .int .i64 e.timer, .slice A e.queue.length c, .bool e.owe] 26)).alloc (.cells #[.int .i64 0, .int .i64 0, .int .i64 0, .int .i64 0, .int .i64 0, .int .i64 0, .slice none 0 0, .bool false] 26) ∧ Ext w W ∧ W.heap[w.heap.size]? = some (.cells #[.int .i64 e.epoch, .int .i64 e.peer, .int .i64 e.acked, .int .i64 e.sent, .int .i64 e.got, .int .i64 e.timer, .slice A e.queue.length c, .bool e.owe] 26 (0, 0)) ∧ W.heap[w.heap.size + 1]? = some (.cells #[.int .i64 0, .int .i64 0, .int .i64 0, .int .i64 0, .int .i64 0, .int .i64 0, .slice none 0 0, .bool false] 26 (0, 0)) := ⟨_, rfl, ((Ext.refl w).alloc _).alloc _, ((Ext.refl _).alloc _).heap (heap_alloc_new w _), by have := heap_alloc_new (w.alloc (.cells #[.int .i64 e.epoch, .int .i64 e.peer, .int .i64 e.acked, .int .i64 e.sent, .int .i64 e.got, .int .i64 e.timer, .slice A e.queue.length c, .bool e.owe] 26)) (.cells #[.int .i64 0, .int .i64 0, .int .i64 0, .int .i64 0, .int .i64 0, .int .i64 0, .slice none 0 0, .bool false] 26); simpa using this⟩
  rw [← hW]
  clear hW
  obtain ⟨q0, q1, q2, q3, q4, q5, q6, q7⟩ := blk8 hB
  go_upto_region 2 with fail
  have hX1 := (Ext.refl W).alloc (.cells (madeCells #[.slice none 0 0] (e.queue.length + 1)) 32)
  have ho1 := own_made e.queue.length hml W
  have hs1 := hX1.size
  clear hmk q0 q1 q2 q3 q4 q5 q6 q7
  generalize W.alloc (.cells (madeCells #[.slice none 0 0] (e.queue.length + 1)) 32) = w1 at *
  obtain ⟨q0, q1, q2, q3, q4, q5, q6, q7⟩ := blk8 (hX1.heap hB)
  go_wp2_with fail
  clear q0 q1 q2 q3 q4 q5 q6 q7
  go_loopw [3, 14] (fun x i wr => ∃ (j : Nat) (zs : List Body), j ≤ e.queue.length ∧ i = .int .i64 (j : Int) ∧ Hid (zs.map Body.b = e.queue.take j) ∧ zs.length = j ∧ OwnV bodyV 32 W.heap.size wr x zs ∧ Hid (∀ z ∈ zs, OwnV bv 5 W.heap.size wr (bodyV z) z.b) ∧ Ext W wr) (fun _ i _ => e.queue.length - (intOf i).toNat)
  case atStart => exact ⟨0, [], by omega, rfl, Lib.hid (by simp), rfl, ho1, Lib.hid (by simp), hX1⟩
  case round =>
    clear ho1 hX1 hs1
    obtain ⟨j, zs, hj, rfl, HZ, hzl, hoz, HB, hX⟩ := hrel
    have HZL := Lib.hid hzl
    clear hzl
    obtain ⟨wo, rfl⟩ : ∃ wo : World, wo = wr := ⟨_, rfl⟩
    by_cases hlt : j < e.queue.length
    · have hij : (j : Int) < (e.queue.length : Int) := by omega
      obtain ⟨bb, oo, x, rfl, hcx, hix⟩ := (HQ.out.ext (hE.trans hX)).at_ hlt
      have HTK := Lib.hid (List.take_succ_eq_append_getElem hlt)
      have hbl := HM.out.bodies _ (List.getElem_mem hlt)
      generalize e.queue[j] = bj at *
      obtain ⟨Ax, cx, rfl, _, _⟩ := id hix
      have hsz := hX.size
      go_wp2_with (at_builtin; go_must (refine wpList_appendV elem_u8 (fun _ => rfl) rfl (.const (.slice none 0 0)) (.tmp 19) rfl W.heap.size (.slice none 0 0) [] rfl (OwnV.nil _) _ bj rfl hix (by simp; omega) (by omega) hsz (Hold.out ?_)))
      refine Hold.mk fun v2 w2 ho2 hg2 => ?_
      have hX2 := hg2.ext hX (by simp [Value.ownBlock])
      have he2 := hg2.ext (Ext.refl wo) (by simp [Value.ownBlock])
      clear hg2
      obtain ⟨A2, c2, rfl, _, _⟩ := ho2.inV
      obtain ⟨z, hzb, hzv⟩ : ∃ z : Body, z.b = bj ∧ bodyV z = .slice A2 bj.length c2 := ⟨⟨A2, bj.length, c2, bj⟩, rfl, rfl⟩
      have hA3 := (Ext.refl w2).alloc (.cells #[.slice A2 bj.length c2] 32)
      have hn3 := OwnV_new (f := bodyV) w2 z 32
      rw [hzv] at hn3
      have hs3 := (hX2.trans hA3).size
      have hoz3 := hoz.ext (he2.trans hA3)
      have hzl : zs.length ≤ 1000000 := by have := HZL.out; omega
      go_wp2_with (at_builtin; go_must (refine wpList_appendV elem_bs (fun _ => rfl) rfl (.tmp 18) (.tmp 21) rfl W.heap.size _ zs rfl hoz3 _ [z] rfl hn3.inV (by simp; omega) (by omega) hs3 (Hold.out ?_)))
      refine Hold.mk fun v4 w4 ho4 hg4 => ?_
      have hX4 := hg4.ext (hX2.trans hA3) hoz.ge
      have hz2 : OwnV bv 5 W.heap.size w2 (bodyV z) z.b := by rw [hzb, hzv]; exact ho2
      have HQO : Hid (QOwn W.heap.size w4 v4 (e.queue.take j ++ [z.b])) := Lib.hid (QOwn.add HZ.out hoz3 (fun x hx => (HB.out x hx).ext (he2.trans hA3)) (hz2.ext hA3) hg4 ho4)
      have HB4 : Hid (∀ x ∈ zs ++ [z], OwnV bv 5 W.heap.size w4 (bodyV x) x.b) := Lib.hid fun x hx => by
        rcases List.mem_append.1 hx with hx | hx
        · exact ((HB.out x hx).ext (he2.trans hA3)).kept hg4.grown (row_ne ((HB.out x hx).ext (he2.trans hA3)) hoz3 (by decide))
        · simp only [List.mem_singleton] at hx; subst hx
          exact (hz2.ext hA3).kept hg4.grown (row_ne (hz2.ext hA3) hoz3 (by decide))
      have HZ4 : Hid ((zs ++ [z]).map Body.b = e.queue.take (j + 1)) := Lib.hid (by rw [List.map_append, HZ.out, HTK.out, List.map_cons, List.map_nil, hzb])
      clear hg4 hA3 hn3 hs3 hoz3 hz2 HQO hzv hzb
      go_wp2_with fail
      go_roundw
      case rel => exact ⟨j + 1, zs ++ [z], by omega, by go_num, HZ4, by have := HZL.out; simp; omega, ho4, HB4, hX4⟩
      case measure => simp [intOf]; omega
    · obtain rfl : j = e.queue.length := by omega
      have HQO : Hid (QOwn W.heap.size wo u3 e.queue) := Lib.hid ⟨zs, by have := HZ.out; rwa [List.take_length] at this, hoz, HB.out⟩
      obtain ⟨A2, c2, hu, _, _⟩ := hoz.inV
      rw [HZL.out] at hu
      subst hu
      have hB2 := hX.heap hB
      have hZ2 := hX.heap hZ
      have hsz := hX.size
      have hX' := hX
      clear hoz HB HZ HZL hX
      obtain ⟨q0, q1, q2, q3, q4, q5, q6, q7⟩ := blk8 hB2
      have f6 := blk_free hB2 6
      have hlt2 := heap_lt hB2
      have hlt3 := heap_lt hZ2
      go_upto_region 8 with fail
      have hg3 : wo.grownBy (wo.setCell ⟨w.heap.size, 6, none⟩ (.slice A2 e.queue.length c2)) (some w.heap.size) := gset wo ⟨w.heap.size, 6, none⟩ (.slice A2 e.queue.length c2)
      have hB3 := blk_set hB2 6 (.slice A2 e.queue.length c2)
      have hZ3 := blk_grown hZ2 hg3 (by simp)
      have HQ3 := Lib.hid (HQO.out.far hg3 hB2 (by decide) (by decide))
      have hE3 := (hE.trans hX').grown hg3 (fun k e => by cases e; omega)
      clear q0 q1 q2 q3 q4 q5 q6 q7 f6 hB2 hZ2 HQO hg3
      generalize wo.setCell ⟨w.heap.size, 6, none⟩ (.slice A2 e.queue.length c2) = w3 at *
      have hst := run_storeAt_blk (P := Try.prog) w3 (w.heap.size + 1) 26 26 _ #[.int .i64 e.epoch, .int .i64 e.peer, .int .i64 e.acked, .int .i64 e.sent, .int .i64 e.got, .int .i64 e.timer, .slice A2 e.queue.length c2, .bool e.owe] hZ3 ep_size rfl (by simp [Value.oneCell'])
      have hld := run_loadAt_blk (P := Try.prog) w3 w.heap.size 26 26 _ (0, 0) _ hB3 Try.underlying26 rfl ep_size
      go_wp2_with first | refine wpList_load_run rfl 26 (.tmp 1) rfl _ _ rfl hld ?_ | refine wpList_store_run rfl 26 (.tmp 2) (.tmp 26) rfl _ _ _ rfl rfl hst ?_
      have hZ4 := setRow_heap w3 (w.heap.size + 1) _ #[.int .i64 e.epoch, .int .i64 e.peer, .int .i64 e.acked, .int .i64 e.sent, .int .i64 e.got, .int .i64 e.timer, .slice A2 e.queue.length c2, .bool e.owe] _ _ hZ3
      have hg4 := gsetRow w3 (w.heap.size + 1) #[.int .i64 e.epoch, .int .i64 e.peer, .int .i64 e.acked, .int .i64 e.sent, .int .i64 e.got, .int .i64 e.timer, .slice A2 e.queue.length c2, .bool e.owe]
      have hQ4 := HQ3.out.far hg4 hZ3 (by decide) (by decide)
      have hE4 := hE3.grown hg4 (fun k e => by cases e; omega)
      clear hst hld hB3 hZ3 HQ3 hg4
      generalize w3.setRow (w.heap.size + 1) #[.int .i64 e.epoch, .int .i64 e.peer, .int .i64 e.acked, .int .i64 e.sent, .int .i64 e.got, .int .i64 e.timer, .slice A2 e.queue.length c2, .bool e.owe] = w4 at *
      obtain ⟨e0, e1, e2, e3, e4, e5, e6, e7⟩ := blk8 hZ4
      refine bodyPost_ret (v := .agg #[.int .i64 e.epoch, .int .i64 e.peer, .int .i64 e.acked, .int .i64 e.sent, .int .i64 e.got, .int .i64 e.timer, .slice A2 e.queue.length c2, .bool e.owe]) (by simp [results, Try.results15, go_sem, e0, e1, e2, e3, e4, e5, e6, e7]) rfl ?_
      exact ⟨_, rfl, hQ4.low hE.size, hE4⟩

set_option maxRecDepth 100000 in
theorem New_any (n : Int) (w : World) : Calls Try.prog 7 #[.int .i64 n] w fun en w' => en = .returned (.agg #[.int .i64 n, .int .i64 0, .int .i64 0, .int .i64 0, .int .i64 0, .int .i64 0, .slice none 0 0, .bool false]) ∧ Ext w w' := by
  go_enter Try.func7, Try.ntmps7
  go_wp2_with fail
  have hZ := heap_alloc_new w (.cells #[.int .i64 n, .int .i64 0, .int .i64 0, .int .i64 0, .int .i64 0, .int .i64 0, .slice none 0 0, .bool false] 26)
  have hX := (Ext.refl w).alloc (.cells #[.int .i64 n, .int .i64 0, .int .i64 0, .int .i64 0, .int .i64 0, .int .i64 0, .slice none 0 0, .bool false] 26)
  generalize w.alloc (.cells #[.int .i64 n, .int .i64 0, .int .i64 0, .int .i64 0, .int .i64 0, .int .i64 0, .slice none 0 0, .bool false] 26) = w1 at *
  obtain ⟨e0, e1, e2, e3, e4, e5, e6, e7⟩ := blk8 hZ
  refine bodyPost_ret (v := .agg #[.int .i64 n, .int .i64 0, .int .i64 0, .int .i64 0, .int .i64 0, .int .i64 0, .slice none 0 0, .bool false]) (by simp [results, Try.results7, go_sem, e0, e1, e2, e3, e4, e5, e6, e7]) rfl ?_
  exact ⟨rfl, hX⟩
/-- the sent messages that are not acknowledged are a part of the queue -/
def EP.Cons (e : EP) : Prop := 0 ≤ e.acked ∧ e.acked ≤ e.sent ∧ e.sent - e.acked ≤ e.queue.length
set_option maxRecDepth 100000 in
theorem consistent_any (v : Value) (e : EP) (w : World) (he : EPAt w v e) (h1 : e.sent ≤ 9223372036854775807) : Calls Try.prog 19 #[v] w (Tells e.Cons w) := by
  obtain ⟨y, rfl, hq⟩ := he
  obtain ⟨A, c, rfl, _⟩ := hq.form
  clear hq
  go_enter Try.func19, Try.ntmps19
  go_upto_region 1 with fail
  obtain ⟨W, hW, hE, hB⟩ : ∃ W, W = w.alloc (.cells #[.int .i64 e.epoch, .int .i64 e.peer, .int .i64 e.acked, .int .i64 e.sent, .int .i64 e.got, .int .i64 e.timer, .slice A e.queue.length c, .bool e.owe] 26) ∧ Ext w W ∧ W.heap[w.heap.size]? = some (.cells #[.int .i64 e.epoch, .int .i64 e.peer, .int .i64 e.acked, .int .i64 e.sent, .int .i64 e.got, .int .i64 e.timer, .slice A e.queue.length c, .bool e.owe] 26 (0, 0)) := ⟨_, rfl, (Ext.refl w).alloc _, heap_alloc_new w _⟩
  rw [← hW]
  clear hW
  obtain ⟨q0, q1, q2, q3, q4, q5, q6, q7⟩ := blk8 hB
  by_cases t0 : e.acked < 0
  · have t0' : decide (e.acked < 0) = true := by simpa using t0
    go_wp2_with fail
    go_ret
    exact Tells.no (fun h => by have := h.1; omega) hE
  have t0' : decide (e.acked < 0) = false := by simpa using t0
  by_cases t1 : e.sent < e.acked
  · have t1' : decide (e.sent < e.acked) = true := by simpa using t1
    go_wp2_with fail
    go_ret
    exact Tells.no (fun h => by have := h.2.1; omega) hE
  have t1' : decide (e.sent < e.acked) = false := by simpa using t1
  have hwr : IntKind.i64.wrap (e.sent - e.acked) = e.sent - e.acked := by rw [IntKind.wrap_i64]; omega
  go_wp2_with fail
  go_ret
  exact ⟨_, rfl, by simp only [decide_eq_true_eq]; exact ⟨fun h => ⟨by omega, by omega, h⟩, fun h => h.2.2⟩, hE⟩
end Go.Proofs.Ytnobepobalpccaa
