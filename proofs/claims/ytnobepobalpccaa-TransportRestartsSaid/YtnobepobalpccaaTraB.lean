/- Push of the program and of the reference; large; Same. -/
import Derived.Test.YtnobepobalpccaaTraA
namespace Go.Proofs.Ytnobepobalpccaa
open Go.RowKit
set_option linter.unusedVariables false

/-- an append, as an outcome -/
theorem exec_appendV {α : Type} {f : α → Value} {P : Program} {t e : TypeId} {bytes : Nat} (he : Elem1 P t e bytes) (h1 : ∀ a, (f a).oneCell' = true) {w : World} {o : Oper} {ev : Operand → Value} (s x : Operand)
    (ho : o.op = .call { callee := .builtin .append, args := #[s, x], argTypes := #[t, t] })
    (base : Nat) (v : Value) (l : List α) (hs : ev s = v) (hown : OwnV f e base w v l)
    (y : Value) (m : List α) (hx : ev x = y) (hr : InV f w y m) (h63 : l.length + m.length ≤ 1073741824) (hb : bytes ≤ 4096) (hbase : base ≤ w.heap.size) :
    ∃ v' w', (execOp ev o).run P w = .ok (.value v') w' ∧ OwnV f e base w' v' (l ++ m) ∧ Grew w w' v v' := by
  obtain ⟨i0, z, hi, hz0, hz1, hz2, hzc⟩ := he.info
  obtain ⟨A, c, rfl, _, hr⟩ := hr
  obtain ⟨v', w', hrun, h2, h3, h4⟩ := run_append_rd (P := P) w base t o.type e i0 z 1 bytes he.slice hi hz0 hz1 hz2 hzc (by omega) v l.length _ hown A m.length c (m.map f) (by simp) hr (fun u hu => by
      obtain ⟨b, _, rfl⟩ := List.mem_map.1 hu
      exact h1 b) (by simp only [maxLen]; omega) (by
      have : (l.length + m.length) * bytes ≤ 1073741824 * 4096 := Nat.mul_le_mul h63 hb
      omega) hbase
  refine ⟨v', w', ?_, by unfold OwnV; simpa using h2, Grew.of_append h3 h4⟩
  unfold execOp
  simp only [ho, resolve, invoke, builtin, Sem.run_bind, Sem.run_pure, Result.andThen_ok, List.map_toArray, List.map_cons, List.map_nil, hs, hx, hrun]
/-- an append to nil in a region that draws its order -/
theorem wpX_append0 {α : Type} {f : α → Value} {P : Program} {md : Region.Mode} {ops : Array Oper} {Q : Exit → Act → World → Prop} {LF : Array Bool} {T : Nat → Array Bool → Act → World → Prop} {t e : TypeId} {bytes : Nat} (he : Elem1 P t e bytes) (h1 : ∀ a, (f a).oneCell' = true) (i : Nat) {o : Oper} {d : Tmp} {n : Nat} {listed : Array Bool} {tm : Array Value} {df : List Deferred} {w : World}
    (s x : Operand) (y : Value) (m : List α) (ho : ops[i]? = some o) (hd : o.dst = some d) (hr : Region.ready md ops listed = [i]) (hLF : LF.getD i false = true) (hg : Region.wanted o (yielded ops tm) = true)
    (hop : o.op = .call { callee := .builtin .append, args := #[s, x], argTypes := #[t, t] }) (hs : (Act.mk tm df).eval s = .slice none 0 0) (hx : (Act.mk tm df).eval x = y) (hin : InV f w y m) (h63 : m.length ≤ 1073741824) (hb : bytes ≤ 4096)
    (h : ∀ v' W W', Ext w W → OwnV f e W.heap.size W' v' m → Ext W W' → wpX P md ops Q LF T n (listed.setIfInBounds i true) ⟨tm.setIfInBounds d v', df⟩ W') : wpX P md ops Q LF T (n + 1) listed ⟨tm, df⟩ w := by
  refine wpX_m i ho hd hr hLF hg fun W hW => ?_
  obtain ⟨v', W', hrun, h2, h3⟩ := exec_appendV he h1 (w := W) s x hop W.heap.size (.slice none 0 0) [] hs (OwnV.nil _) y m hx (hin.ext hW) (by simpa using h63) hb (Nat.le_refl _)
  have hE := h3.ext (Ext.refl W) (by simp [Value.ownBlock])
  exact ⟨v', W', hrun, hE, h v' W W' hW (by simpa using h2) hE⟩
def pushF (e : EP) (b : List UInt8) : EP × Int := if 6000 < b.length then (ep0, 1) else if 1000 ≤ e.queue.length then (ep0, 5) else (⟨e.epoch, e.peer, e.acked, e.sent, e.got, e.timer, e.queue ++ [b], e.owe⟩, 0)
def PushPostO (e : EP) (b : List UInt8) (w : World) (en : Ending) (w' : World) : Prop := ∃ y e' er, en = .returned (.tuple #[.agg #[.int .i64 e'.epoch, .int .i64 e'.peer, .int .i64 e'.acked, .int .i64 e'.sent, .int .i64 e'.got, .int .i64 e'.timer, y, .bool e'.owe], .int .i64 er]) ∧ (e', er) = pushF e b ∧ QOwn w.heap.size w' y e'.queue ∧ Ext w w'
def PushPost (e : EP) (b : List UInt8) (w : World) (en : Ending) (w' : World) : Prop := ∃ y e' er, en = .returned (.tuple #[.agg #[.int .i64 e'.epoch, .int .i64 e'.peer, .int .i64 e'.acked, .int .i64 e'.sent, .int .i64 e'.got, .int .i64 e'.timer, y, .bool e'.owe], .int .i64 er]) ∧ (e', er) = pushF e b ∧ QIn w' y e'.queue ∧ Ext w w'
set_option maxHeartbeats 1000000 in
set_option maxRecDepth 100000 in
theorem Push_own (v x : Value) (e : EP) (b : List UInt8) (w : World) (he : EPAt w v e) (hm : e.Mid) (hb : InB w x b) :
    Calls Try.prog 11 #[v, x] w (PushPostO e b w) := by
  obtain ⟨y, rfl, hq⟩ := he
  obtain ⟨A, c, rfl, _⟩ := hq.form
  obtain ⟨B, cb, rfl, _, _⟩ := id hb
  have HQ := Lib.hid hq
  have HM := Lib.hid hm
  clear hq hm
  go_enter Try.func11, Try.ntmps11
  go_upto_region 1 with fail
  obtain ⟨W, hW, hE, hB, hZ⟩ : ∃ W, W = (w.alloc (.cells #[.int .i64 e.epoch, .int .i64 e.peer, .int .i64 e.acked, .int .i64 e.sent, .int .i64 e.got, .int .i64 e.timer, .slice A e.queue.length c, .bool e.owe] 26)).alloc (.cells #[.int .i64 0, .int .i64 0, .int .i64 0, .int .i64 0, .int .i64 0, .int .i64 0, .slice none 0 0, .bool false] 26) ∧ Ext w W ∧ W.heap[w.heap.size]? = some (.cells #[.int .i64 e.epoch, .int .i64 e.peer, .int .i64 e.acked, .int .i64 e.sent, .int .i64 e.got, .int .i64 e.timer, .slice A e.queue.length c, .bool e.owe] 26 (0, 0)) ∧ W.heap[w.heap.size + 1]? = some (.cells #[.int .i64 0, .int .i64 0, .int .i64 0, .int .i64 0, .int .i64 0, .int .i64 0, .slice none 0 0, .bool false] 26 (0, 0)) := ⟨_, rfl, ((Ext.refl w).alloc _).alloc _, ((Ext.refl _).alloc _).heap (heap_alloc_new w _), by have := heap_alloc_new (w.alloc (.cells #[.int .i64 e.epoch, .int .i64 e.peer, .int .i64 e.acked, .int .i64 e.sent, .int .i64 e.got, .int .i64 e.timer, .slice A e.queue.length c, .bool e.owe] 26)) (.cells #[.int .i64 0, .int .i64 0, .int .i64 0, .int .i64 0, .int .i64 0, .int .i64 0, .slice none 0 0, .bool false] 26); simpa using this⟩
  rw [← hW]
  clear hW
  by_cases t0 : 6000 < b.length
  · have t0' : (6000 : Int) < (b.length : Int) := by omega
    have hst := run_storeAt_blk (P := Try.prog) W (w.heap.size + 1) 26 26 _ #[.int .i64 0, .int .i64 0, .int .i64 0, .int .i64 0, .int .i64 0, .int .i64 0, .slice none 0 0, .bool false] hZ ep_size rfl (by simp [Value.oneCell'])
    go_wp2_with first | refine wpList_store_run rfl 26 (.tmp 4) (.tmp 9) rfl _ _ _ rfl rfl hst ?_
    have hZ4 := setRow_heap W (w.heap.size + 1) _ #[.int .i64 0, .int .i64 0, .int .i64 0, .int .i64 0, .int .i64 0, .int .i64 0, .slice none 0 0, .bool false] _ _ hZ
    have hg4 := gsetRow W (w.heap.size + 1) #[.int .i64 0, .int .i64 0, .int .i64 0, .int .i64 0, .int .i64 0, .int .i64 0, .slice none 0 0, .bool false]
    have hE4 := hE.grown hg4 (fun k e => by cases e; omega)
    generalize W.setRow (w.heap.size + 1) #[.int .i64 0, .int .i64 0, .int .i64 0, .int .i64 0, .int .i64 0, .int .i64 0, .slice none 0 0, .bool false] = w4 at *
    obtain ⟨e0, e1, e2, e3, e4, e5, e6, e7⟩ := blk8 hZ4
    refine bodyPost_ret (v := .tuple #[.agg #[.int .i64 0, .int .i64 0, .int .i64 0, .int .i64 0, .int .i64 0, .int .i64 0, .slice none 0 0, .bool false], .int .i64 1]) (by simp [results, Try.results11, go_sem, e0, e1, e2, e3, e4, e5, e6, e7]) rfl ?_
    exact ⟨_, ep0, 1, rfl, by rw [pushF, if_pos t0], QOwn.nil _, hE4⟩
  have t0' : ¬ (6000 : Int) < (b.length : Int) := by omega
  obtain ⟨q0, q1, q2, q3, q4, q5, q6, q7⟩ := blk8 hB
  by_cases t1 : 1000 ≤ e.queue.length
  · have t1' : (1000 : Int) ≤ (e.queue.length : Int) := by omega
    have hst := run_storeAt_blk (P := Try.prog) W (w.heap.size + 1) 26 26 _ #[.int .i64 0, .int .i64 0, .int .i64 0, .int .i64 0, .int .i64 0, .int .i64 0, .slice none 0 0, .bool false] hZ ep_size rfl (by simp [Value.oneCell'])
    go_wp2_with first | refine wpList_store_run rfl 26 (.tmp 4) (.tmp 14) rfl _ _ _ rfl rfl hst ?_
    have hZ4 := setRow_heap W (w.heap.size + 1) _ #[.int .i64 0, .int .i64 0, .int .i64 0, .int .i64 0, .int .i64 0, .int .i64 0, .slice none 0 0, .bool false] _ _ hZ
    have hg4 := gsetRow W (w.heap.size + 1) #[.int .i64 0, .int .i64 0, .int .i64 0, .int .i64 0, .int .i64 0, .int .i64 0, .slice none 0 0, .bool false]
    have hE4 := hE.grown hg4 (fun k e => by cases e; omega)
    generalize W.setRow (w.heap.size + 1) #[.int .i64 0, .int .i64 0, .int .i64 0, .int .i64 0, .int .i64 0, .int .i64 0, .slice none 0 0, .bool false] = w4 at *
    obtain ⟨e0, e1, e2, e3, e4, e5, e6, e7⟩ := blk8 hZ4
    refine bodyPost_ret (v := .tuple #[.agg #[.int .i64 0, .int .i64 0, .int .i64 0, .int .i64 0, .int .i64 0, .int .i64 0, .slice none 0 0, .bool false], .int .i64 5]) (by simp [results, Try.results11, go_sem, e0, e1, e2, e3, e4, e5, e6, e7]) rfl ?_
    exact ⟨_, ep0, 5, rfl, by rw [pushF, if_neg t0, if_pos t1], QOwn.nil _, hE4⟩
  have t1' : ¬ (1000 : Int) ≤ (e.queue.length : Int) := by omega
  go_wp2_with fail
  refine (clone_any _ e W ⟨_, rfl, HQ.out.ext hE⟩ HM.out).mono ?_
  rintro en w1 ⟨y1, rfl, hq1, hx1⟩
  obtain ⟨A2, c2, rfl, _⟩ := hq1.in_.form
  have hB1 := hx1.heap hB
  have hZ1 := hx1.heap hZ
  have hst := run_storeAt_blk (P := Try.prog) w1 w.heap.size 26 26 _ #[.int .i64 e.epoch, .int .i64 e.peer, .int .i64 e.acked, .int .i64 e.sent, .int .i64 e.got, .int .i64 e.timer, .slice A2 e.queue.length c2, .bool e.owe] hB1 ep_size rfl (by simp [Value.oneCell'])
  clear q0 q1 q2 q3 q4 q5 q6 q7
  go_upto_region 6 with first | refine wpList_store_run rfl 26 (.tmp 2) (.tmp 16) rfl _ _ _ rfl rfl hst ?_
  have hB2 := setRow_heap w1 w.heap.size _ #[.int .i64 e.epoch, .int .i64 e.peer, .int .i64 e.acked, .int .i64 e.sent, .int .i64 e.got, .int .i64 e.timer, .slice A2 e.queue.length c2, .bool e.owe] _ _ hB1
  have hg2 := gsetRow w1 w.heap.size #[.int .i64 e.epoch, .int .i64 e.peer, .int .i64 e.acked, .int .i64 e.sent, .int .i64 e.got, .int .i64 e.timer, .slice A2 e.queue.length c2, .bool e.owe]
  have hZ2 := blk_grown hZ1 hg2 (by simp)
  have hq2 := hq1.far hg2 hB1 (by decide) (by decide)
  have hE2 := (hE.trans hx1).grown hg2 (fun k e => by cases e; omega)
  have hW2 : W.heap.size ≤ (w1.setRow w.heap.size #[.int .i64 e.epoch, .int .i64 e.peer, .int .i64 e.acked, .int .i64 e.sent, .int .i64 e.got, .int .i64 e.timer, .slice A2 e.queue.length c2, .bool e.owe]).heap.size := Nat.le_trans hx1.size hg2.size
  clear hst hB1 hZ1 hg2 hq1 hx1
  generalize w1.setRow w.heap.size #[.int .i64 e.epoch, .int .i64 e.peer, .int .i64 e.acked, .int .i64 e.sent, .int .i64 e.got, .int .i64 e.timer, .slice A2 e.queue.length c2, .bool e.owe] = w2 at *
  obtain ⟨zs, hz1, hz2, hz3⟩ := hq2
  have HZ1 := Lib.hid hz1
  have HZ3 := Lib.hid hz3
  have hzl : zs.length = e.queue.length := by rw [← hz1]; simp
  have HZL := Lib.hid hzl
  clear hz1 hz3 hzl
  have hsl1 := hE.size
  refine wp_region_X #[true, true, true, true, true, false, false, false] 5 3 (by kernel_rfl) rfl ?_
  refine wpX_vt 0 (.pointer (some ⟨w.heap.size, 6, none⟩)) rfl rfl (by kernel_rfl) (by kernel_rfl) (by kernel_rfl) (fun _ _ _ _ h => h) (by kernel_rfl) rfl (by rfl) (fun W' hW => by
    skip
    go_simp) ?_
  simp only [List.setIfInBounds_toArray, List.set_cons_zero, List.set_cons_succ]
  refine wpX_vt 1 (.slice A2 e.queue.length c2) rfl rfl (by kernel_rfl) (by kernel_rfl) (by kernel_rfl) (fun _ _ _ _ h => h) (by kernel_rfl) rfl (by rfl) (fun W' hW => by
    have qq := blk_at ((((Ext.refl w2).drew).trans hW).heap hB2) 6 _ rfl
    go_simp) ?_
  simp only [List.setIfInBounds_toArray, List.set_cons_zero, List.set_cons_succ]
  refine wpX_vt 2 (.slice B b.length cb) rfl rfl (by kernel_rfl) (by kernel_rfl) (by kernel_rfl) (fun _ _ _ _ h => h) (by kernel_rfl) rfl (by rfl) (fun W' hW => by
    skip
    go_simp) ?_
  simp only [List.setIfInBounds_toArray, List.set_cons_zero, List.set_cons_succ]
  refine wpX_append0 elem_u8 (fun _ => rfl) 3 (.const (.slice none 0 0)) (.tmp 19) _ b rfl rfl (by kernel_rfl) rfl (by rfl) rfl rfl rfl (hb.ext (hE2.drew)) (by omega) (by omega) fun v4 W3 W4 hW3 ho4 hE4 => ?_
  simp only [List.setIfInBounds_toArray, List.set_cons_zero, List.set_cons_succ]
  obtain ⟨A4, c4, rfl, _, _⟩ := ho4.inV
  obtain ⟨z, hzb, hzv⟩ : ∃ z : Body, z.b = b ∧ bodyV z = .slice A4 b.length c4 := ⟨⟨A4, b.length, c4, b⟩, rfl, rfl⟩
  refine wpX_m 4 rfl rfl (by kernel_rfl) rfl (by rfl) fun W5 hW5 => ?_
  have hA5 := (Ext.refl W5).alloc (.cells #[.slice A4 b.length c4] 32)
  refine ⟨.slice (some ⟨W5.heap.size, 0, none⟩) 1 1, W5.alloc (.cells #[.slice A4 b.length c4] 32), by go_simp, hA5, ?_⟩
  simp only [List.setIfInBounds_toArray, List.set_cons_zero, List.set_cons_succ]
  have hn5 := OwnV_new (f := bodyV) W5 z 32
  rw [hzv] at hn5
  have hX5 := hW5.trans hA5
  have hX5' := ((((Ext.refl w2).drew).trans hW3).trans hE4).trans hX5
  have hzz : OwnV bv 5 W.heap.size (W5.alloc (.cells #[.slice A4 b.length c4] 32)) (bodyV z) z.b := by rw [hzb, hzv]; exact (ho4.ext hX5).low (Nat.le_trans hW2 (((Ext.refl w2).drew).trans hW3).size)
  have hi5 := hn5.inV
  clear hn5 hA5 hzv hX5 ho4
  generalize W5.alloc (.cells #[.slice A4 b.length c4] 32) = W6 at *
  generalize W5.heap.size = gn at *
  refine wpX_end rfl fun W7 hW7 => tail_seq 5 rfl (by kernel_rfl) ?_
  simp only [List.drop_succ_cons, List.drop_zero]
  have hX7 := hX5'.trans hW7
  have hz7 := hz2.ext hX7
  have hzz7 := hzz.ext hW7
  have hi7 := hi5.ext hW7
  have hB7 := hX7.heap hB2
  have hZ7 := hX7.heap hZ2
  have hE7 := hE2.trans hX7
  have hs7 := Nat.le_trans hW2 hX7.size
  have HZ7 : Hid (∀ z ∈ zs, OwnV bv 5 W.heap.size W7 (bodyV z) z.b) := Lib.hid fun z hz => (HZ3.out z hz).ext hX7
  have hzl : zs.length ≤ 1000 := by have := HZL.out; omega
  clear hX7 hX5' hW7 hi5 hzz hz2 hB2 hZ2 HZ3 hE4 hW3 hW5 hE2 hW2
  go_wp2_with (at_builtin; go_must (refine wpList_appendV elem_bs (fun _ => rfl) rfl (.tmp 18) (.tmp 21) rfl W.heap.size _ zs rfl hz7 _ [z] rfl hi7 (by simp; omega) (by omega) hs7 (Hold.out ?_)))
  refine Hold.mk fun v8 w8 ho8 hg8 => ?_
  have hq8 := QOwn.add HZ1.out hz7 HZ7.out hzz7 hg8 ho8
  rw [hzb] at hq8
  have hB8 := blk_grown hB7 hg8.grown (hz7.ne_blk hB7 (by decide)).symm
  have hZ8 := blk_grown hZ7 hg8.grown (hz7.ne_blk hZ7 (by decide)).symm
  have hE8 := hE7.grown hg8.grown (fun k hk => by have := hz7.ge k hk; omega)
  obtain ⟨A3, c3, hv8, _⟩ := hq8.in_.form
  rw [List.length_append, List.length_singleton] at hv8
  subst hv8
  clear hg8 ho8 hz7 hzz7 hi7 hB7 hZ7 HZ7 hE7 hs7
  obtain ⟨q0, q1, q2, q3, q4, q5, q6, q7⟩ := blk8 hB8
  have f6 := blk_free hB8 6
  have hlt8 := heap_lt hB8
  go_wp2_with fail
  refine NoPanic.normal ?_
  have hg9 : w8.grownBy (w8.setCell ⟨w.heap.size, 6, none⟩ (.slice A3 (e.queue.length + 1) c3)) (some w.heap.size) := gset w8 ⟨w.heap.size, 6, none⟩ (.slice A3 (e.queue.length + 1) c3)
  have hB9 := blk_set hB8 6 (.slice A3 (e.queue.length + 1) c3)
  have hZ9 := blk_grown hZ8 hg9 (by simp)
  have HQ9 := Lib.hid (hq8.far hg9 hB8 (by decide) (by decide))
  have hE9 := hE8.grown hg9 (fun k e => by cases e; omega)
  clear q0 q1 q2 q3 q4 q5 q6 q7 f6 hB8 hZ8 hq8 hg9 hE8 hlt8
  generalize w8.setCell ⟨w.heap.size, 6, none⟩ (.slice A3 (e.queue.length + 1) c3) = w9 at *
  have hst := run_storeAt_blk (P := Try.prog) w9 (w.heap.size + 1) 26 26 _ #[.int .i64 e.epoch, .int .i64 e.peer, .int .i64 e.acked, .int .i64 e.sent, .int .i64 e.got, .int .i64 e.timer, .slice A3 (e.queue.length + 1) c3, .bool e.owe] hZ9 ep_size rfl (by simp [Value.oneCell'])
  have hld := run_loadAt_blk (P := Try.prog) w9 w.heap.size 26 26 _ (0, 0) _ hB9 Try.underlying26 rfl ep_size
  go_wp2_with first | refine wpList_load_run rfl 26 (.tmp 2) rfl _ _ rfl hld ?_ | refine wpList_store_run rfl 26 (.tmp 4) (.tmp 24) rfl _ _ _ rfl rfl hst ?_
  have hZ10 := setRow_heap w9 (w.heap.size + 1) _ #[.int .i64 e.epoch, .int .i64 e.peer, .int .i64 e.acked, .int .i64 e.sent, .int .i64 e.got, .int .i64 e.timer, .slice A3 (e.queue.length + 1) c3, .bool e.owe] _ _ hZ9
  have hg10 := gsetRow w9 (w.heap.size + 1) #[.int .i64 e.epoch, .int .i64 e.peer, .int .i64 e.acked, .int .i64 e.sent, .int .i64 e.got, .int .i64 e.timer, .slice A3 (e.queue.length + 1) c3, .bool e.owe]
  have hQ10 := HQ9.out.far hg10 hZ9 (by decide) (by decide)
  have hE10 := hE9.grown hg10 (fun k e => by cases e; omega)
  clear hst hld hB9 hZ9 HQ9 hg10
  generalize w9.setRow (w.heap.size + 1) #[.int .i64 e.epoch, .int .i64 e.peer, .int .i64 e.acked, .int .i64 e.sent, .int .i64 e.got, .int .i64 e.timer, .slice A3 (e.queue.length + 1) c3, .bool e.owe] = w10 at *
  obtain ⟨e0, e1, e2, e3, e4, e5, e6, e7⟩ := blk8 hZ10
  refine bodyPost_ret (v := .tuple #[.agg #[.int .i64 e.epoch, .int .i64 e.peer, .int .i64 e.acked, .int .i64 e.sent, .int .i64 e.got, .int .i64 e.timer, .slice A3 (e.queue.length + 1) c3, .bool e.owe], .int .i64 0]) (by simp [results, Try.results11, go_sem, e0, e1, e2, e3, e4, e5, e6, e7]) rfl ?_
  exact ⟨_, ⟨e.epoch, e.peer, e.acked, e.sent, e.got, e.timer, e.queue ++ [b], e.owe⟩, 0, rfl, by rw [pushF, if_neg t0, if_neg t1], hQ10.low hE.size, hE10⟩
theorem Push_any (v x : Value) (e : EP) (b : List UInt8) (w : World) (he : EPAt w v e) (hm : e.Mid) (hb : InB w x b) :
    Calls Try.prog 11 #[v, x] w (PushPost e b w) := (Push_own v x e b w he hm hb).mono fun en w' ⟨y, e', er, h1, h2, h3, h4⟩ => ⟨y, e', er, h1, h2, h3.in_, h4⟩
end Go.Proofs.Ytnobepobalpccaa
