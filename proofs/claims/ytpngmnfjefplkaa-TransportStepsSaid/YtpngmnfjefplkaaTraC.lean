/- The reference's Push; large; Same; Bodies. -/
import Derived.Test.YtpngmnfjefplkaaTraB
namespace Go.Proofs.Ytpngmnfjefplkaa
open Go.RowKit
set_option linter.unusedVariables false


theorem ownV_empty {α : Type} {f : α → Value} (w : World) (e : TypeId) : OwnV f e w.heap.size (w.alloc (.cells #[] e)) (.slice (some ⟨w.heap.size, 0, none⟩) 0 0) [] :=
  ⟨rfl, .inr ⟨w.heap.size, 0, #[], rfl, Nat.le_refl _, heap_alloc_new w _, Nat.le_refl _, Nat.zero_le _, rfl, rfl⟩⟩
set_option maxHeartbeats 1000000 in
set_option maxRecDepth 100000 in
theorem refPush_any (v x : Value) (e : EP) (b : List UInt8) (w : World) (he : EPAt w v e) (hm : e.Mid) (hb : InB w x b) :
    Calls Try.prog 34 #[v, x] w (PushPost e b w) := by
  obtain ⟨y, rfl, hq⟩ := he
  obtain ⟨A, c, rfl, _⟩ := hq.form
  obtain ⟨B, cb, rfl, _, _⟩ := id hb
  obtain ⟨zs, hz1, hz2, hz3⟩ := id hq
  have HZ1 := Lib.hid hz1
  have HZ3 := Lib.hid hz3
  have hzl : zs.length = e.queue.length := by rw [← hz1]; simp
  have HZL := Lib.hid hzl
  have hml := hm.queue
  clear hq hm hz1 hz3 hzl
  go_enter Try.func34, Try.ntmps34
  go_upto_region 1 with fail
  obtain ⟨W, hW, hE, hB, hZ⟩ : ∃ W, W = (w.alloc (.cells #[.int .i64 e.epoch, .int .i64 e.peer, .int .i64 e.acked, .int .i64 e.sent, .int .i64 e.got, .int .i64 e.timer, .slice A e.queue.length c, .bool e.owe] 50)).alloc (.cells #[.int .i64 0, .int .i64 0, .int .i64 0, .int .i64 0, .int .i64 0, .int .i64 0, .slice none 0 0, .bool false] 50) ∧ Ext w W ∧ W.heap[w.heap.size]? = some (.cells #[.int .i64 e.epoch, .int .i64 e.peer, .int .i64 e.acked, .int .i64 e.sent, .int .i64 e.got, .int .i64 e.timer, .slice A e.queue.length c, .bool e.owe] 50 (0, 0)) ∧ W.heap[w.heap.size + 1]? = some (.cells #[.int .i64 0, .int .i64 0, .int .i64 0, .int .i64 0, .int .i64 0, .int .i64 0, .slice none 0 0, .bool false] 50 (0, 0)) := ⟨_, rfl, ((Ext.refl w).alloc _).alloc _, ((Ext.refl _).alloc _).heap (heap_alloc_new w _), by have := heap_alloc_new (w.alloc (.cells #[.int .i64 e.epoch, .int .i64 e.peer, .int .i64 e.acked, .int .i64 e.sent, .int .i64 e.got, .int .i64 e.timer, .slice A e.queue.length c, .bool e.owe] 50)) (.cells #[.int .i64 0, .int .i64 0, .int .i64 0, .int .i64 0, .int .i64 0, .int .i64 0, .slice none 0 0, .bool false] 50); simpa using this⟩
  rw [← hW]
  clear hW
  by_cases t0 : 6000 < b.length
  · have t0' : (6000 : Int) < (b.length : Int) := by omega
    have hst := run_storeAt_blk (P := Try.prog) W (w.heap.size + 1) 50 50 _ #[.int .i64 0, .int .i64 0, .int .i64 0, .int .i64 0, .int .i64 0, .int .i64 0, .slice none 0 0, .bool false] hZ re_size rfl (by simp [Value.oneCell'])
    go_wp2_with first | refine wpList_store_run rfl 50 (.tmp 4) (.tmp 9) rfl _ _ _ rfl rfl hst ?_
    have hZ4 := setRow_heap W (w.heap.size + 1) _ #[.int .i64 0, .int .i64 0, .int .i64 0, .int .i64 0, .int .i64 0, .int .i64 0, .slice none 0 0, .bool false] _ _ hZ
    have hg4 := gsetRow W (w.heap.size + 1) #[.int .i64 0, .int .i64 0, .int .i64 0, .int .i64 0, .int .i64 0, .int .i64 0, .slice none 0 0, .bool false]
    have hE4 := hE.grown hg4 (fun k e => by cases e; omega)
    generalize W.setRow (w.heap.size + 1) #[.int .i64 0, .int .i64 0, .int .i64 0, .int .i64 0, .int .i64 0, .int .i64 0, .slice none 0 0, .bool false] = w4 at *
    obtain ⟨e0, e1, e2, e3, e4, e5, e6, e7⟩ := blk8 hZ4
    refine bodyPost_ret (v := .tuple #[.agg #[.int .i64 0, .int .i64 0, .int .i64 0, .int .i64 0, .int .i64 0, .int .i64 0, .slice none 0 0, .bool false], .int .i64 1]) (by simp [results, Try.results34, go_sem, e0, e1, e2, e3, e4, e5, e6, e7]) rfl ?_
    exact ⟨_, ep0, 1, rfl, by rw [pushF, if_pos t0], QIn.nil _, hE4⟩
  have t0' : ¬ (6000 : Int) < (b.length : Int) := by omega
  obtain ⟨q0, q1, q2, q3, q4, q5, q6, q7⟩ := blk8 hB
  by_cases t1 : 1000 ≤ e.queue.length
  · have t1' : (1000 : Int) ≤ (e.queue.length : Int) := by omega
    have hst := run_storeAt_blk (P := Try.prog) W (w.heap.size + 1) 50 50 _ #[.int .i64 0, .int .i64 0, .int .i64 0, .int .i64 0, .int .i64 0, .int .i64 0, .slice none 0 0, .bool false] hZ re_size rfl (by simp [Value.oneCell'])
    go_wp2_with first | refine wpList_store_run rfl 50 (.tmp 4) (.tmp 14) rfl _ _ _ rfl rfl hst ?_
    have hZ4 := setRow_heap W (w.heap.size + 1) _ #[.int .i64 0, .int .i64 0, .int .i64 0, .int .i64 0, .int .i64 0, .int .i64 0, .slice none 0 0, .bool false] _ _ hZ
    have hg4 := gsetRow W (w.heap.size + 1) #[.int .i64 0, .int .i64 0, .int .i64 0, .int .i64 0, .int .i64 0, .int .i64 0, .slice none 0 0, .bool false]
    have hE4 := hE.grown hg4 (fun k e => by cases e; omega)
    generalize W.setRow (w.heap.size + 1) #[.int .i64 0, .int .i64 0, .int .i64 0, .int .i64 0, .int .i64 0, .int .i64 0, .slice none 0 0, .bool false] = w4 at *
    obtain ⟨e0, e1, e2, e3, e4, e5, e6, e7⟩ := blk8 hZ4
    refine bodyPost_ret (v := .tuple #[.agg #[.int .i64 0, .int .i64 0, .int .i64 0, .int .i64 0, .int .i64 0, .int .i64 0, .slice none 0 0, .bool false], .int .i64 5]) (by simp [results, Try.results34, go_sem, e0, e1, e2, e3, e4, e5, e6, e7]) rfl ?_
    exact ⟨_, ep0, 5, rfl, by rw [pushF, if_neg t0, if_pos t1], QIn.nil _, hE4⟩
  have t1' : ¬ (1000 : Int) ≤ (e.queue.length : Int) := by omega
  have hzl : zs.length ≤ 1000 := by have := HZL.out; omega
  have hX1 := (Ext.refl W).alloc (.cells #[] 32)
  have hlt := heap_lt hB
  go_wp2_with (at_builtin; go_must (refine wpList_appendV elem_bs (fun _ => rfl) rfl (.tmp 15) (.tmp 17) rfl W.heap.size _ [] rfl (ownV_empty W 32) _ zs rfl (hz2.ext (hE.trans hX1)) (by simp; omega) (by omega) hX1.size (Hold.out ?_)))
  refine Hold.mk fun v2 w2 ho2 hg2 => ?_
  have hX2 := hg2.ext hX1 (ownV_empty (f := bodyV) W 32).ge
  have hX3 := (Ext.refl w2).alloc (.cells #[] 5)
  clear hg2 hX1 q0 q1 q2 q3 q4 q5 q6 q7
  go_wp2_with (at_builtin; go_must (refine wpList_appendV elem_u8 (fun _ => rfl) rfl (.tmp 19) (.tmp 20) rfl w2.heap.size _ [] rfl (ownV_empty w2 5) _ b rfl (hb.ext ((hE.trans hX2).trans hX3)) (by simp; omega) (by omega) hX3.size (Hold.out ?_)))
  refine Hold.mk fun v4 w4 ho4 hg4 => ?_
  have hX4 := hg4.ext hX3 (ownV_empty (f := bv) w2 5).ge
  obtain ⟨A4, c4, rfl, _, _⟩ := ho4.inV
  obtain ⟨z, hzb, hzv⟩ : ∃ z : Body, z.b = b ∧ bodyV z = .slice A4 b.length c4 := ⟨⟨A4, b.length, c4, b⟩, rfl, rfl⟩
  have hA5 := (Ext.refl w4).alloc (.cells #[.slice A4 b.length c4] 32)
  have hn5 := OwnV_new (f := bodyV) w4 z 32
  rw [hzv] at hn5
  have ho5 := ho2.ext (hX4.trans hA5)
  have hs5 := (hX2.trans (hX4.trans hA5)).size
  clear hg4 hX3
  go_wp2_with (at_builtin; go_must (refine wpList_appendV elem_bs (fun _ => rfl) rfl (.tmp 18) (.tmp 22) rfl W.heap.size v2 zs rfl ho5 _ [z] rfl hn5.inV (by simp; omega) (by omega) hs5 (Hold.out ?_)))
  refine Hold.mk fun v6 w6 ho6 hg6 => ?_
  have hX6 := hg6.ext (hX2.trans (hX4.trans hA5)) ho2.ge
  have hzz : OwnV bv 5 w2.heap.size w6 (bodyV z) z.b := by
    rw [hzb, hzv]
    exact (ho4.ext hA5).kept hg6.grown (row_ne (ho4.ext hA5) ho5 (by decide))
  have hq6 : QIn w6 v6 (e.queue ++ [b]) := ⟨zs ++ [z], by rw [List.map_append, HZ1.out, List.map_cons, List.map_nil, hzb], ho6.inV, fun x hx => by
    rcases List.mem_append.1 hx with hx | hx
    · exact (HZ3.out x hx).ext (hE.trans hX6)
    · simp only [List.mem_singleton] at hx; subst hx; exact hzz.inV⟩
  have hB6 := hX6.heap hB
  have hZ6 := hX6.heap hZ
  have hE6 := hE.trans hX6
  obtain ⟨A3, c3, hv6, _⟩ := hq6.form
  rw [List.length_append, List.length_singleton] at hv6
  subst hv6
  obtain ⟨zz, hzz1, hzz2, hzz3⟩ := hq6
  have HQ6 : Hid (∀ W', Ext w W' → OwnV bodyV 32 W.heap.size W' (.slice A3 (e.queue.length + 1) c3) (zs ++ [z]) → OwnV bv 5 w2.heap.size W' (bodyV z) z.b → QIn W' (.slice A3 (e.queue.length + 1) c3) (e.queue ++ [b])) := Lib.hid fun W' h1 h2 h3 => ⟨zs ++ [z], by rw [List.map_append, HZ1.out, List.map_cons, List.map_nil, hzb], h2.inV, fun x hx => by
    rcases List.mem_append.1 hx with hx | hx
    · exact (HZ3.out x hx).ext h1
    · simp only [List.mem_singleton] at hx; subst hx; exact h3.inV⟩
  clear hg6 hX6 hX2 hX4 hA5 hn5 ho5 hs5 ho2 ho4 hzz1 hzz2 hzz3 hzv hzb
  obtain ⟨q0, q1, q2, q3, q4, q5, q6, q7⟩ := blk8 hB6
  have f6 := blk_free hB6 6
  have hlt6 := heap_lt hB6
  go_upto_region 6 with fail
  have hg9 : w6.grownBy (w6.setCell ⟨w.heap.size, 6, none⟩ (.slice A3 (e.queue.length + 1) c3)) (some w.heap.size) := gset w6 ⟨w.heap.size, 6, none⟩ (.slice A3 (e.queue.length + 1) c3)
  have hB9 := blk_set hB6 6 (.slice A3 (e.queue.length + 1) c3)
  have hZ9 := blk_grown hZ6 hg9 (by simp)
  have hE9 := hE6.grown hg9 (fun k e => by cases e; omega)
  have ho9 := ho6.kept hg9 (.inr (ho6.ne_blk hB6 (by decide)))
  have hz9 := hzz.kept hg9 (.inr (hzz.ne_blk hB6 (by decide)))
  clear q0 q1 q2 q3 q4 q5 q6 q7 f6 hB6 hZ6 hg9 hE6 hlt6 ho6 hzz
  generalize w6.setCell ⟨w.heap.size, 6, none⟩ (.slice A3 (e.queue.length + 1) c3) = w9 at *
  have hst := run_storeAt_blk (P := Try.prog) w9 (w.heap.size + 1) 50 50 _ #[.int .i64 e.epoch, .int .i64 e.peer, .int .i64 e.acked, .int .i64 e.sent, .int .i64 e.got, .int .i64 e.timer, .slice A3 (e.queue.length + 1) c3, .bool e.owe] hZ9 re_size rfl (by simp [Value.oneCell'])
  have hld := run_loadAt_blk (P := Try.prog) w9 w.heap.size 50 50 _ (0, 0) _ hB9 Try.underlying50 rfl re_size
  go_wp2_with first | refine wpList_load_run rfl 50 (.tmp 2) rfl _ _ rfl hld ?_ | refine wpList_store_run rfl 50 (.tmp 4) (.tmp 25) rfl _ _ _ rfl rfl hst ?_
  have hZ10 := setRow_heap w9 (w.heap.size + 1) _ #[.int .i64 e.epoch, .int .i64 e.peer, .int .i64 e.acked, .int .i64 e.sent, .int .i64 e.got, .int .i64 e.timer, .slice A3 (e.queue.length + 1) c3, .bool e.owe] _ _ hZ9
  have hg10 := gsetRow w9 (w.heap.size + 1) #[.int .i64 e.epoch, .int .i64 e.peer, .int .i64 e.acked, .int .i64 e.sent, .int .i64 e.got, .int .i64 e.timer, .slice A3 (e.queue.length + 1) c3, .bool e.owe]
  have hE10 := hE9.grown hg10 (fun k e => by cases e; omega)
  have hQ10 := HQ6.out _ hE10 (ho9.kept hg10 (.inr (ho9.ne_blk hZ9 (by decide)))) (hz9.kept hg10 (.inr (hz9.ne_blk hZ9 (by decide))))
  clear hst hld hB9 hZ9 hg10
  generalize w9.setRow (w.heap.size + 1) #[.int .i64 e.epoch, .int .i64 e.peer, .int .i64 e.acked, .int .i64 e.sent, .int .i64 e.got, .int .i64 e.timer, .slice A3 (e.queue.length + 1) c3, .bool e.owe] = w10 at *
  obtain ⟨e0, e1, e2, e3, e4, e5, e6, e7⟩ := blk8 hZ10
  refine bodyPost_ret (v := .tuple #[.agg #[.int .i64 e.epoch, .int .i64 e.peer, .int .i64 e.acked, .int .i64 e.sent, .int .i64 e.got, .int .i64 e.timer, .slice A3 (e.queue.length + 1) c3, .bool e.owe], .int .i64 0]) (by simp [results, Try.results34, go_sem, e0, e1, e2, e3, e4, e5, e6, e7]) rfl ?_
  exact ⟨_, ⟨e.epoch, e.peer, e.acked, e.sent, e.got, e.timer, e.queue ++ [b], e.owe⟩, 0, rfl, by rw [pushF, if_neg t0, if_neg t1], hQ10, hE10⟩

def LargePost (q : List (List UInt8)) (w : World) (en : Ending) (w' : World) : Prop := ∃ r : Bool, en = .returned (.bool r) ∧ (r = false → q.length ≤ 20 ∧ ∀ b ∈ q, b.length ≤ 300) ∧ Ext w w'
set_option maxHeartbeats 1000000 in
set_option maxRecDepth 100000 in
theorem large_any (y : Value) (q : List (List UInt8)) (w : World) (hq : QIn w y q) : Calls Try.prog 21 #[y] w (LargePost q w) := by
  obtain ⟨A, c, rfl, _⟩ := hq.form
  have HQ := Lib.hid hq
  clear hq
  go_enter Try.func21, Try.ntmps21
  go_wp2_with fail
  go_loopw [3] (fun i wr => ∃ j : Nat, j ≤ q.length ∧ j ≤ 20 ∧ i = .int .i64 (j : Int) ∧ Hid (∀ b ∈ q.take j, b.length ≤ 300) ∧ Ext w wr) (fun i _ => 20 - (intOf i).toNat)
  case atStart => exact ⟨0, by omega, by omega, rfl, Lib.hid (by simp), Ext.refl _⟩
  case round =>
    obtain ⟨j, hj, hj20, rfl, HA, hX⟩ := hrel
    obtain ⟨wo, rfl⟩ : ∃ wo : World, wo = wr := ⟨_, rfl⟩
    by_cases h1 : j < q.length
    · have h1' : (j : Int) < (q.length : Int) := by omega
      by_cases h2 : j < 20
      · have h2' : (j : Int) < 20 := by omega
        obtain ⟨bb, oo, x, rfl, hcx, hix⟩ := (HQ.out.ext hX).at_ h1
        have HT := Lib.hid (List.take_succ_eq_append_getElem h1)
        generalize q[j] = bj at *
        obtain ⟨Ax, cx, rfl, _, _⟩ := id hix
        by_cases h3 : 300 < bj.length
        · have h3' : (300 : Int) < (bj.length : Int) := by omega
          go_wp2_with fail
          go_ret
          exact ⟨true, rfl, (fun h => by cases h), hX⟩
        · have h3' : ¬ (300 : Int) < (bj.length : Int) := by omega
          go_wp2_with fail
          go_roundw
          case rel => exact ⟨j + 1, by omega, by omega, by go_num, Lib.hid (by
            rw [HT.out]
            intro b hb
            rcases List.mem_append.1 hb with hb | hb
            · exact HA.out b hb
            · simp only [List.mem_singleton] at hb; subst hb; omega), hX⟩
          case measure => simp [intOf]; omega
      · have h2' : ¬ (j : Int) < 20 := by omega
        have h4 : (20 : Int) < (q.length : Int) := by omega
        go_wp2_with fail
        go_ret
        exact ⟨true, rfl, (fun h => by cases h), hX⟩
    · have h1' : ¬ (j : Int) < (q.length : Int) := by omega
      have h4 : ¬ (20 : Int) < (q.length : Int) := by omega
      have HA2 : Hid (∀ b ∈ q, b.length ≤ 300) := Lib.hid (by have := HA.out; rwa [List.take_of_length_le (by omega)] at this)
      go_wp2_with fail
      go_ret
      exact ⟨false, rfl, fun _ => ⟨by omega, HA2.out⟩, hX⟩
end Go.Proofs.Ytpngmnfjefplkaa
