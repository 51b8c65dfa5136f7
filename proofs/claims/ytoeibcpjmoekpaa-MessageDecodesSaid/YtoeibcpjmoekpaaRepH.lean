/- Replies: SameReply and the reference's encoders. Printed by mkrep.py. -/
import Derived.Test.YtoeibcpjmoekpaaRepG
namespace Go.Proofs.Ytoeibcpjmoekpaa
open Go.RowKit
set_option linter.unusedVariables false
theorem rep_eq {r q : Rep} (h0 : r.err = q.err) (h1 : r.words = q.words) (h2 : r.threads = q.threads) (h3 : r.output = q.output) (h4 : r.s0 = q.s0) (h5 : r.s1 = q.s1) (h6 : r.s2 = q.s2) (h7 : r.s3 = q.s3) (h8 : r.s4 = q.s4) (h9 : r.s5 = q.s5) (h10 : r.s6 = q.s6) : r = q := by
  cases r; cases q; simp_all
structure Rep.Mid (r : Rep) : Prop where
  words : r.words.length ≤ 1000000000
  threads : r.threads.length ≤ 1000000000
  output : r.output.length ≤ 1000000000
  args : ∀ t ∈ r.threads, t.args.length ≤ 1000000000
set_option maxHeartbeats 1000000 in
set_option maxRecDepth 100000 in
theorem SameReply_any (u v : Value) (r q : Rep) (w : World) (hr : RepAt w u r) (hq : RepAt w v q) (mr : r.Mid) (mq : q.Mid) :
    Calls Try.prog 35 #[u, v] w (Tells (r = q) w) := by
  obtain ⟨yw, yt, yo, rfl, hi⟩ := hr
  obtain ⟨zw, zt, zo, rfl, hj⟩ := hq
  obtain ⟨A, ca, rfl, _, _⟩ := id hi.words
  obtain ⟨B, cb, rfl⟩ := hi.threads.form
  obtain ⟨C, cc, rfl⟩ := hi.output.form
  obtain ⟨D, cd, rfl, _, _⟩ := id hj.words
  obtain ⟨E, ce, rfl⟩ := hj.threads.form
  obtain ⟨G, cg, rfl⟩ := hj.output.form
  have HI := Lib.hid hi
  have HJ := Lib.hid hj
  have MR := Lib.hid mr
  have MQ := Lib.hid mq
  clear hi hj mr mq
  go_enter Try.func35, Try.ntmps35
  go_upto_region 1 with fail
  obtain ⟨W, hW, hE, hB, hD⟩ : ∃ W, W = (w.alloc (.cells #[.int .i64 r.err, .slice A r.words.length ca, .slice B r.threads.length cb, .slice C r.output.length cc, .int .i64 r.s0, .int .i64 r.s1, .int .i64 r.s2, .int .i64 r.s3, .int .i64 r.s4, .int .i64 r.s5, .int .i64 r.s6] 58)).alloc (.cells #[.int .i64 q.err, .slice D q.words.length cd, .slice E q.threads.length ce, .slice G q.output.length cg, .int .i64 q.s0, .int .i64 q.s1, .int .i64 q.s2, .int .i64 q.s3, .int .i64 q.s4, .int .i64 q.s5, .int .i64 q.s6] 58) ∧ Ext w W ∧ W.heap[w.heap.size]? = some (.cells #[.int .i64 r.err, .slice A r.words.length ca, .slice B r.threads.length cb, .slice C r.output.length cc, .int .i64 r.s0, .int .i64 r.s1, .int .i64 r.s2, .int .i64 r.s3, .int .i64 r.s4, .int .i64 r.s5, .int .i64 r.s6] 58 (0, 0)) ∧ W.heap[w.heap.size + 1]? = some (.cells #[.int .i64 q.err, .slice D q.words.length cd, .slice E q.threads.length ce, .slice G q.output.length cg, .int .i64 q.s0, .int .i64 q.s1, .int .i64 q.s2, .int .i64 q.s3, .int .i64 q.s4, .int .i64 q.s5, .int .i64 q.s6] 58 (0, 0)) := ⟨_, rfl, ((Ext.refl w).alloc _).alloc _, ((Ext.refl _).alloc _).heap (heap_alloc_new w _), by have := heap_alloc_new (w.alloc (.cells #[.int .i64 r.err, .slice A r.words.length ca, .slice B r.threads.length cb, .slice C r.output.length cc, .int .i64 r.s0, .int .i64 r.s1, .int .i64 r.s2, .int .i64 r.s3, .int .i64 r.s4, .int .i64 r.s5, .int .i64 r.s6] 58)) (.cells #[.int .i64 q.err, .slice D q.words.length cd, .slice E q.threads.length ce, .slice G q.output.length cg, .int .i64 q.s0, .int .i64 q.s1, .int .i64 q.s2, .int .i64 q.s3, .int .i64 q.s4, .int .i64 q.s5, .int .i64 q.s6] 58); simpa using this⟩
  rw [← hW]
  clear hW
  obtain ⟨q0, q1, q2, q3, q4, q5, q6, q7, q8, q9, q10⟩ := blk11 hB
  obtain ⟨p0, p1, p2, p3, p4, p5, p6, p7, p8, p9, p10⟩ := blk11 hD
  by_cases h0 : r.err = q.err
  rotate_left
  · have e0 : (r.err == q.err) = false := by simpa using h0
    go_wp2_with fail
    go_ret
    exact Tells.no (fun h => h0 (by rw [h])) hE
  have e0 : (r.err == q.err) = true := by simpa using h0
  have H0 := Lib.hid h0
  clear h0
  by_cases k0 : r.s0 = q.s0
  rotate_left
  · go_wp2_with fail
    go_ret
    exact Tells.no (fun h => k0 (by rw [h])) hE
  have K0 := Lib.hid k0
  by_cases k1 : r.s1 = q.s1
  rotate_left
  · go_wp2_with fail
    go_ret
    exact Tells.no (fun h => k1 (by rw [h])) hE
  have K1 := Lib.hid k1
  by_cases k2 : r.s2 = q.s2
  rotate_left
  · go_wp2_with fail
    go_ret
    exact Tells.no (fun h => k2 (by rw [h])) hE
  have K2 := Lib.hid k2
  by_cases k3 : r.s3 = q.s3
  rotate_left
  · go_wp2_with fail
    go_ret
    exact Tells.no (fun h => k3 (by rw [h])) hE
  have K3 := Lib.hid k3
  by_cases k4 : r.s4 = q.s4
  rotate_left
  · go_wp2_with fail
    go_ret
    exact Tells.no (fun h => k4 (by rw [h])) hE
  have K4 := Lib.hid k4
  by_cases k5 : r.s5 = q.s5
  rotate_left
  · go_wp2_with fail
    go_ret
    exact Tells.no (fun h => k5 (by rw [h])) hE
  have K5 := Lib.hid k5
  by_cases k6 : r.s6 = q.s6
  rotate_left
  · go_wp2_with fail
    go_ret
    exact Tells.no (fun h => k6 (by rw [h])) hE
  have K6 := Lib.hid k6
  go_wp2_with fail
  clear k0 k1 k2 k3 k4 k5 k6
  refine (Ints_any _ _ _ _ W (HI.out.words.ext hE) (HJ.out.words.ext hE) MR.out.words MQ.out.words).mono ?_
  rintro e w1 ⟨b1, rfl, hb1, he1⟩
  have HB1 := Lib.hid hb1
  clear hb1 q0 q1 q2 q3 q4 q5 q6 q7 q8 q9 q10 p0 p1 p2 p3 p4 p5 p6 p7 p8 p9 p10
  obtain ⟨q0, q1, q2, q3, q4, q5, q6, q7, q8, q9, q10⟩ := blk11 (he1.heap hB)
  obtain ⟨p0, p1, p2, p3, p4, p5, p6, p7, p8, p9, p10⟩ := blk11 (he1.heap hD)
  have hE1 := hE.trans he1
  cases b1 with
  | false =>
    go_wp2_with fail
    go_ret
    exact Tells.no (fun h => by have := HB1.out.2 (by rw [h]); cases this) hE1
  | true =>
    go_wp2_with fail
    refine (SameThreads_any _ _ _ _ w1 (HI.out.threads.ext hE1) (HJ.out.threads.ext hE1) MR.out.threads MQ.out.threads MR.out.args MQ.out.args).mono ?_
    rintro e w2 ⟨b2, rfl, hb2, he2⟩
    have HB2 := Lib.hid hb2
    clear hb2 q0 q1 q2 q3 q4 q5 q6 q7 q8 q9 q10 p0 p1 p2 p3 p4 p5 p6 p7 p8 p9 p10
    obtain ⟨q0, q1, q2, q3, q4, q5, q6, q7, q8, q9, q10⟩ := blk11 ((he1.trans he2).heap hB)
    obtain ⟨p0, p1, p2, p3, p4, p5, p6, p7, p8, p9, p10⟩ := blk11 ((he1.trans he2).heap hD)
    have hE2 := hE1.trans he2
    cases b2 with
    | false =>
      go_wp2_with fail
      go_ret
      exact Tells.no (fun h => by have := HB2.out.2 (by rw [h]); cases this) hE2
    | true =>
      go_wp2_with fail
      refine (SameOutput_any _ _ _ _ w2 (HI.out.output.ext hE2) (HJ.out.output.ext hE2) MR.out.output MQ.out.output).mono ?_
      rintro e w3 ⟨b3, rfl, hb3, he3⟩
      have HB3 := Lib.hid hb3
      clear hb3 q0 q1 q2 q3 q4 q5 q6 q7 q8 q9 q10 p0 p1 p2 p3 p4 p5 p6 p7 p8 p9 p10
      go_wp2_with fail
      go_ret
      exact ⟨b3, rfl, ⟨fun h => rep_eq H0.out (HB1.out.1 (by simp)) (HB2.out.1 (by simp)) (HB3.out.1 h) K0.out K1.out K2.out K3.out K4.out K5.out K6.out, fun h => HB3.out.2 (by rw [h])⟩, hE2.trans he3⟩

set_option maxHeartbeats 1000000 in
set_option maxRecDepth 100000 in
theorem refthread_any (v : Value) (l : List UInt8) (cs : Array Value) (t : Thr) (y : Value) (w : World) (hv : InB w v l) (tk : Took cs t y) (harg : InI w y t.args) (hok : t.Ok) (hl : l.length ≤ 400000000) (hal : t.args.length ≤ 1000000) :
    Calls Try.prog 51 #[v, .agg cs] w fun e w' => ∃ v', e = .returned v' ∧ OwnV bv 5 w.heap.size w' v' (l ++ thrB t) ∧ Ext w w' := by
  obtain ⟨Y, cy, rfl, _, _⟩ := id harg
  have HO := Lib.hid hok
  clear hok
  have hreg := tk.regs
  go_enter Try.func51, Try.ntmps51
  go_upto_region 1 with fail
  have hB1 := heap_alloc_new w (.cells cs 91)
  have hA1 := (Ext.refl w).alloc (.cells cs 91)
  have hR1 := tk.regsIn hB1
  obtain ⟨c0, c17, c18, c19⟩ := tk.cells hB1
  generalize w.alloc (.cells cs 91) = w1 at *
  go_upto_region 2 with fail
  have hA2 := (Ext.refl w1).alloc (.cells #[.int .i64 t.state, .int .i64 t.func, .int .i64 t.pc] 3)
  have hn2 := OwnV_newN (f := iv) w1 [t.state, t.func, t.pc] 3 rfl (by omega) #[.int .i64 t.state, .int .i64 t.func, .int .i64 t.pc] rfl 3
  have hB2 := hA2.heap hB1
  have hR2 := hR1.ext hA2
  have hE2 := hA1.trans hA2
  have hs1 := hA1.size
  have hs2 := hA2.size
  clear c0 c17 c18 c19 hR1 hB1
  generalize w1.alloc (.cells #[.int .i64 t.state, .int .i64 t.func, .int .i64 t.pc] 3) = w2 at *
  go_wp2_with (at_builtin; go_must (refine wpList_appendV elem_int (fun _ => rfl) rfl (.tmp 14) (.tmp 17) rfl w1.heap.size _ [t.state, t.func, t.pc] rfl hn2 _ t.regs rfl hR2 (by simp; omega) (by omega) (by omega) (Hold.out ?_)))
  refine Hold.mk fun v3 w3 hn3 hg3 => ?_
  have hE3 := hg3.ext hE2 (fun k hk => Nat.le_trans hA1.size (hn2.ge k hk))
  have hB3 := blk_grown hB2 hg3.grown (hn2.ne_blk hB2 (by decide)).symm
  change OwnV iv 3 w1.heap.size w3 v3 t.nums at hn3
  have HNL : Hid (t.nums.length = 19) := Lib.hid (by simp [Thr.nums, hreg])
  have hln := listB_len t.nums HO.out.nums (by rw [HNL.out]; omega)
  rw [HNL.out] at hln
  clear hg3 hn2 hB2 hR2 hE2 hA2 hs2
  go_wp2_with fail
  obtain ⟨V3, c3, rfl, _, _⟩ := id hn3.inV
  refine wp_region_X #[true, true, true, true, true, true, false] 6 1 (by kernel_rfl) rfl ?_
  refine wpX_v 0 (v) rfl rfl (by kernel_rfl) (by kernel_rfl) (by kernel_rfl) (fun _ _ _ _ h => h) (by kernel_rfl) rfl (by rfl) (fun W' hW => by
    skip
    go_simp) ?_
  simp only [List.setIfInBounds_toArray, List.set_cons_zero, List.set_cons_succ]
  refine wpX_v 1 (.slice V3 t.nums.length c3) rfl rfl (by kernel_rfl) (by kernel_rfl) (by kernel_rfl) (fun _ _ _ _ h => h) (by kernel_rfl) rfl (by rfl) (fun W' hW => by
    skip
    go_simp) ?_
  simp only [List.setIfInBounds_toArray, List.set_cons_zero, List.set_cons_succ]
  refine wpX_v 3 (.pointer (some ⟨w.heap.size, 19, none⟩)) rfl rfl (by kernel_rfl) (by kernel_rfl) (by kernel_rfl) (fun _ _ _ _ h => h) (by kernel_rfl) rfl (by rfl) (fun W' hW => by
    skip
    go_simp) ?_
  simp only [List.setIfInBounds_toArray, List.set_cons_zero, List.set_cons_succ]
  refine wpX_v 4 (.slice Y t.args.length cy) rfl rfl (by kernel_rfl) (by kernel_rfl) (by kernel_rfl) (fun _ _ _ _ h => h) (by kernel_rfl) rfl (by rfl) (fun W' hW => by
    obtain ⟨_, _, _, c19⟩ := tk.cells ((((Ext.refl w3).drew).trans hW).heap hB3)
    go_simp) ?_
  simp only [List.setIfInBounds_toArray, List.set_cons_zero, List.set_cons_succ]
  refine wpX_c 2 39 #[v, .slice V3 t.nums.length c3] rfl rfl (by kernel_rfl) rfl rfl (fun W => by go_simp) ?_
  intro W4 hW4
  have hE4 := (hE3.drew).trans hW4
  refine (reflist_any _ _ _ t.nums W4 (hv.ext hE4) (hn3.inV.ext (((Ext.refl w3).drew).trans hW4)) HO.out.nums (by omega) (by rw [HNL.out]; omega)).mono ?_
  rintro e w5 ⟨v5, rfl, ho5, he5⟩
  refine ⟨_, rfl, he5, ?_⟩
  simp only [List.setIfInBounds_toArray, List.set_cons_zero, List.set_cons_succ]
  have hE5 := hE4.trans he5
  have hs4 := hE4.size
  refine wpX_c 5 39 #[v5, .slice Y t.args.length cy] rfl rfl (by kernel_rfl) rfl rfl (fun W => by go_simp) ?_
  intro W6 hW6
  refine (reflist_any _ _ _ t.args W6 (ho5.inV.ext hW6) (harg.ext (hE5.trans hW6)) HO.out.args (by simp only [List.length_append]; omega) (by omega)).mono ?_
  rintro e w7 ⟨v7, rfl, ho7, he7⟩
  refine ⟨_, rfl, he7, ?_⟩
  simp only [List.setIfInBounds_toArray, List.set_cons_zero, List.set_cons_succ]
  have hE7 := (hE5.trans hW6).trans he7
  have ho8 := ho7.low (hE5.trans hW6).size
  refine wpX_end rfl fun W8 hW8 => tail_seq 6 rfl (by kernel_rfl) ?_
  go_wp2_with fail
  refine NoPanic.normal ?_
  go_wp2_with fail
  go_ret
  exact ⟨_, rfl, by rw [thrB]; simpa [List.append_assoc] using ho8.ext hW8, hE7.trans hW8⟩

set_option maxHeartbeats 1000000 in
set_option maxRecDepth 100000 in
theorem refoutput_any (v z : Value) (l : List UInt8) (xs : List (Int × Int)) (w : World) (hv : InB w v l) (hz : OutAt w z xs) (hx : ∀ x ∈ outL xs, I64 x) (hl : l.length ≤ 400000000) (hl2 : xs.length ≤ 1000000) :
    Calls Try.prog 52 #[v, z] w fun e w' => ∃ v', e = .returned v' ∧ OwnV bv 5 w.heap.size w' v' (l ++ listB (outL xs)) ∧ Ext w w' := by
  obtain ⟨A, c, rfl⟩ := hz.form
  have HX := Lib.hid hx
  clear hx
  go_enter Try.func52, Try.ntmps52
  go_wp2_with fail
  go_loopw [5, 6] (fun y i wr => ∃ j : Nat, j ≤ xs.length ∧ i = .int .i64 (j : Int) ∧ OwnV iv 3 w.heap.size wr y (outL (xs.take j)) ∧ Ext w wr) (fun _ i _ => xs.length - (intOf i).toNat)
  case atStart => exact ⟨0, by omega, rfl, OwnV.nil _, Ext.refl _⟩
  case round =>
    obtain ⟨j, hj, rfl, ho, hX⟩ := hrel
    obtain ⟨wo, rfl⟩ : ∃ wo : World, wo = wr := ⟨_, rfl⟩
    have hol := outL_len (xs.take j)
    have htl : (xs.take j).length ≤ j := by simp; omega
    obtain ⟨Y, cy, rfl, _, _⟩ := id ho.inV
    by_cases hlt : j < xs.length
    · obtain ⟨b, off, rfl, hc0, hc1⟩ := (hz.ext hX).at_ hlt
      have HT := Lib.hid (outL_take xs j hlt)
      generalize xs[j] = o at *
      have hij : (j : Int) < (xs.length : Int) := by omega
      have HOL := Lib.hid hol
      clear hol
      go_wp2_with fail
      refine wp_region_X #[true, true, true, true, true, true, true, true, true, true, true, true, false, false] 12 2 (by kernel_rfl) rfl ?_
      refine wpX_vt 0 (.slice Y (outL (xs.take j)).length cy) rfl rfl (by kernel_rfl) (by kernel_rfl) (by kernel_rfl) (fun _ _ _ _ h => h) (by kernel_rfl) rfl (by rfl) (fun W' hW => by
        skip
        go_simp) ?_
      simp only [List.setIfInBounds_toArray, List.set_cons_zero, List.set_cons_succ]
      refine wpX_vt 1 (.slice (some ⟨b, off, none⟩) xs.length c) rfl rfl (by kernel_rfl) (by kernel_rfl) (by kernel_rfl) (fun _ _ _ _ h => h) (by kernel_rfl) rfl (by rfl) (fun W' hW => by
        skip
        go_simp) ?_
      simp only [List.setIfInBounds_toArray, List.set_cons_zero, List.set_cons_succ]
      refine wpX_vt 2 (.int .i64 (j : Int)) rfl rfl (by kernel_rfl) (by kernel_rfl) (by kernel_rfl) (fun _ _ _ _ h => h) (by kernel_rfl) rfl (by rfl) (fun W' hW => by
        skip
        go_simp) ?_
      simp only [List.setIfInBounds_toArray, List.set_cons_zero, List.set_cons_succ]
      refine wpX_vt 3 (.pointer (some ⟨b, off + j * 2, none⟩)) rfl rfl (by kernel_rfl) (by kernel_rfl) (by kernel_rfl) (fun _ _ _ _ h => h) (by kernel_rfl) rfl (by rfl) (fun W' hW => by
        skip
        go_simp) ?_
      simp only [List.setIfInBounds_toArray, List.set_cons_zero, List.set_cons_succ]
      refine wpX_vt 4 (.pointer (some ⟨b, off + j * 2, none⟩)) rfl rfl (by kernel_rfl) (by kernel_rfl) (by kernel_rfl) (fun _ _ _ _ h => h) (by kernel_rfl) rfl (by rfl) (fun W' hW => by
        skip
        go_simp) ?_
      simp only [List.setIfInBounds_toArray, List.set_cons_zero, List.set_cons_succ]
      refine wpX_vt 5 (.int .i64 o.1) rfl rfl (by kernel_rfl) (by kernel_rfl) (by kernel_rfl) (fun _ _ _ _ h => h) (by kernel_rfl) rfl (by rfl) (fun W' hW => by
        have hcc := (((Ext.refl wo).drew).trans hW).cell hc0
        go_simp) ?_
      simp only [List.setIfInBounds_toArray, List.set_cons_zero, List.set_cons_succ]
      refine wpX_vt 6 (.slice (some ⟨b, off, none⟩) xs.length c) rfl rfl (by kernel_rfl) (by kernel_rfl) (by kernel_rfl) (fun _ _ _ _ h => h) (by kernel_rfl) rfl (by rfl) (fun W' hW => by
        skip
        go_simp) ?_
      simp only [List.setIfInBounds_toArray, List.set_cons_zero, List.set_cons_succ]
      refine wpX_vt 7 (.int .i64 (j : Int)) rfl rfl (by kernel_rfl) (by kernel_rfl) (by kernel_rfl) (fun _ _ _ _ h => h) (by kernel_rfl) rfl (by rfl) (fun W' hW => by
        skip
        go_simp) ?_
      simp only [List.setIfInBounds_toArray, List.set_cons_zero, List.set_cons_succ]
      refine wpX_vt 8 (.pointer (some ⟨b, off + j * 2, none⟩)) rfl rfl (by kernel_rfl) (by kernel_rfl) (by kernel_rfl) (fun _ _ _ _ h => h) (by kernel_rfl) rfl (by rfl) (fun W' hW => by
        skip
        go_simp) ?_
      simp only [List.setIfInBounds_toArray, List.set_cons_zero, List.set_cons_succ]
      refine wpX_vt 9 (.pointer (some ⟨b, off + j * 2 + 1, none⟩)) rfl rfl (by kernel_rfl) (by kernel_rfl) (by kernel_rfl) (fun _ _ _ _ h => h) (by kernel_rfl) rfl (by rfl) (fun W' hW => by
        skip
        go_simp) ?_
      simp only [List.setIfInBounds_toArray, List.set_cons_zero, List.set_cons_succ]
      refine wpX_vt 10 (.int .i64 o.2) rfl rfl (by kernel_rfl) (by kernel_rfl) (by kernel_rfl) (fun _ _ _ _ h => h) (by kernel_rfl) rfl (by rfl) (fun W' hW => by
        have hcc := (((Ext.refl wo).drew).trans hW).cell hc1
        go_simp) ?_
      simp only [List.setIfInBounds_toArray, List.set_cons_zero, List.set_cons_succ]
      refine wpX_m 11 rfl rfl (by kernel_rfl) rfl (by rfl) fun W1 hW1 => ?_
      have hA2 := (Ext.refl W1).alloc (.cells #[.int .i64 o.1, .int .i64 o.2] 3)
      refine ⟨.slice (some ⟨W1.heap.size, 0, none⟩) 2 2, W1.alloc (.cells #[.int .i64 o.1, .int .i64 o.2] 3), by go_simp, hA2, ?_⟩
      simp only [List.setIfInBounds_toArray, List.set_cons_zero, List.set_cons_succ]
      have hn2 := OwnV_newN (f := iv) W1 [o.1, o.2] 2 rfl (by omega) #[.int .i64 o.1, .int .i64 o.2] rfl 3
      have ho2 := ho.ext ((((Ext.refl wo).drew).trans hW1).trans hA2)
      have hE2 := ((hX.drew).trans hW1).trans hA2
      generalize W1.alloc (.cells #[.int .i64 o.1, .int .i64 o.2] 3) = w2 at *
      refine wpX_end rfl fun W3 hW3 => tail_seq 12 rfl (by kernel_rfl) ?_
      simp only [List.drop_succ_cons, List.drop_zero]
      have hE3 := hE2.trans hW3
      have ho3 := ho2.ext hW3
      have hn3 := hn2.inV.ext hW3
      have hs3 := hE3.size
      have hlo : (outL (xs.take j)).length ≤ 2 * j := by rw [HOL.out]; omega
      clear hn2 ho2 hE2 hW3 hA2
      go_wp2_with (at_builtin; go_must (refine wpList_appendV elem_int (fun _ => rfl) rfl (.tmp 13) (.tmp 24) rfl w.heap.size _ _ rfl ho3 _ [o.1, o.2] rfl hn3 (by simp only [List.length_cons, List.length_nil]; omega) (by omega) (by omega) (Hold.out ?_)))
      refine Hold.mk fun v8 w8 hn8 hg8 => ?_
      have hX8 := hg8.ext hE3 ho3.ge
      go_wp2_with fail
      refine NoPanic.normal ?_
      go_wp2_with fail
      go_roundw
      case rel => exact ⟨j + 1, by omega, by go_num, by rw [HT.out]; exact hn8, hX8⟩
      case measure => simp [intOf]; omega
    · obtain rfl : j = xs.length := by omega
      rw [List.take_length] at ho hol
      have HOL := Lib.hid hol
      clear hol htl
      simp only [List.take_length]
      go_wp2_with fail
      refine (reflist_any _ _ _ (outL xs) wo (hv.ext hX) ho.inV HX.out (by omega) (by rw [HOL.out]; omega)).mono ?_
      rintro e w9 ⟨v9, rfl, ho9, he9⟩
      go_wp2_with fail
      go_ret
      exact ⟨_, rfl, ho9.low hX.size, hX.trans he9⟩

theorem thrsB_len2 (l : List Thr) (h : ∀ t ∈ l, t.Ok ∧ t.regs.length = 16 ∧ t.args.length ≤ 4) : (thrsB l).length ≤ 250 * l.length := thrsB_len l h
set_option maxHeartbeats 1000000 in
set_option maxRecDepth 100000 in
theorem refEncodeReply_any (v : Value) (r : Rep) (w : World) (hr : RepAt w v r) (hok : r.Ok) :
    Calls Try.prog 33 #[v] w (EncRPost r w) := by
  obtain ⟨yw, yt, yo, rfl, hi⟩ := hr
  obtain ⟨A, ca, rfl, _, _⟩ := id hi.words
  obtain ⟨B, cb, rfl⟩ := hi.threads.form
  obtain ⟨C, cc, rfl⟩ := hi.output.form
  have HO := Lib.hid hok
  clear hok
  have HI := Lib.hid hi
  clear hi
  have HRG := Lib.hid HI.out.threads.regs
  go_enter Try.func33, Try.ntmps33
  go_upto_region 1 with fail
  obtain ⟨W, hW, hE, hB⟩ : ∃ W, W = w.alloc (.cells #[.int .i64 r.err, .slice A r.words.length ca, .slice B r.threads.length cb, .slice C r.output.length cc, .int .i64 r.s0, .int .i64 r.s1, .int .i64 r.s2, .int .i64 r.s3, .int .i64 r.s4, .int .i64 r.s5, .int .i64 r.s6] 58) ∧ Ext w W ∧ W.heap[w.heap.size]? = some (.cells #[.int .i64 r.err, .slice A r.words.length ca, .slice B r.threads.length cb, .slice C r.output.length cc, .int .i64 r.s0, .int .i64 r.s1, .int .i64 r.s2, .int .i64 r.s3, .int .i64 r.s4, .int .i64 r.s5, .int .i64 r.s6] 58 (0, 0)) := ⟨_, rfl, (Ext.refl w).alloc _, heap_alloc_new w _⟩
  rw [← hW]
  clear hW
  obtain ⟨q0, q1, q2, q3, q4, q5, q6, q7, q8, q9, q10⟩ := blk11 hB
  by_cases t0 : 128 < r.words.length
  · have e0 : (128 : Int) < (r.words.length : Int) := by omega
    go_wp2_with fail
    go_ret2
    exact ⟨_, _, rfl, .inr ⟨fun h => by have := h.words; omega, rfl, rfl⟩, hE⟩
  have e0 : ¬ (128 : Int) < (r.words.length : Int) := by omega
  by_cases t1 : 128 < r.output.length
  · have e1 : (128 : Int) < (r.output.length : Int) := by omega
    go_wp2_with fail
    go_ret2
    exact ⟨_, _, rfl, .inr ⟨fun h => by have := h.output; omega, rfl, rfl⟩, hE⟩
  have e1 : ¬ (128 : Int) < (r.output.length : Int) := by omega
  by_cases t2 : 8 < r.threads.length
  · have e2 : (8 : Int) < (r.threads.length : Int) := by omega
    go_wp2_with fail
    go_ret2
    exact ⟨_, _, rfl, .inr ⟨fun h => by have := h.threads; omega, rfl, rfl⟩, hE⟩
  have e2 : ¬ (8 : Int) < (r.threads.length : Int) := by omega
  go_wp2_with fail
  refine (refAppendInt_any (.slice none 0 0) [] r.err W (InV.nil W) (by simp) HO.out.err.1 HO.out.err.2).mono ?_
  rintro e w1 ⟨y1, rfl, ho1, he1⟩
  rw [List.nil_append] at ho1
  have hzl := leb_len10 (zig_lt HO.out.err.1 HO.out.err.2)
  clear q0 q1 q2 q3 q4 q5 q6 q7 q8 q9 q10
  obtain ⟨q0, q1, q2, q3, q4, q5, q6, q7, q8, q9, q10⟩ := blk11 (he1.heap hB)
  go_wp2_with fail
  refine (reflist_any _ _ _ r.words w1 ho1.toV.inV (HI.out.words.ext (hE.trans he1)) HO.out.words (by omega) (by omega)).mono ?_
  rintro e w2 ⟨y2, rfl, ho2, he2⟩
  have hX2 := he1.trans he2
  have hwl := listB_len r.words HO.out.words (by omega)
  clear q0 q1 q2 q3 q4 q5 q6 q7 q8 q9 q10
  obtain ⟨q0, q1, q2, q3, q4, q5, q6, q7, q8, q9, q10⟩ := blk11 (hX2.heap hB)
  go_wp2_with fail
  refine (refAppendUint_any _ _ (r.threads.length : Int) w2 ho2.inV (by simp only [List.length_append]; omega) (by omega)).mono ?_
  rintro e w3 ⟨y3, rfl, ho3, he3⟩
  have hul := uintB_len (v := (r.threads.length : Int)) (by omega)
  have hX3 := hX2.trans he3
  have ho3' := ho3.toV.low (base' := W.heap.size) hX2.size
  obtain ⟨pre, hpre⟩ : ∃ pre, pre = leb (zig r.err) ++ (listB r.words ++ uintB r.threads.length) := ⟨_, rfl⟩
  have ho4 : OwnV bv 5 W.heap.size w3 y3 (pre ++ thrsB (r.threads.take 0)) := by rw [hpre]; simpa [thrsB, List.append_assoc] using ho3'
  have hpl : pre.length ≤ 1400 := by rw [hpre]; simp only [List.length_append]; omega
  have HP := Lib.hid hpre
  clear q0 q1 q2 q3 q4 q5 q6 q7 q8 q9 q10 hpre ho3 ho3' ho2 ho1 he3 he2 he1 hX2 hul hwl hzl
  go_wp2_with fail
  go_loopw [4, 5] (fun b i wr => ∃ j : Nat, j ≤ r.threads.length ∧ i = .int .i64 (j : Int) ∧ OwnV bv 5 W.heap.size wr b (pre ++ thrsB (r.threads.take j)) ∧ (∀ t ∈ r.threads.take j, t.args.length ≤ 4) ∧ Ext W wr) (fun _ i _ => r.threads.length - (intOf i).toNat)
  case atStart => exact ⟨0, by omega, rfl, ho4, by simp, hX3⟩
  case round =>
    clear ho4 hX3
    obtain ⟨j, hj, rfl, hoj, hall, hXj⟩ := hrel
    obtain ⟨wo, rfl⟩ : ∃ wo : World, wo = wr := ⟨_, rfl⟩
    have HA := Lib.hid hall
    clear hall
    have hln := thrsB_len (r.threads.take j) (fun t ht => ⟨HO.out.threads t (List.mem_of_mem_take ht), HRG.out t (List.mem_of_mem_take ht), HA.out t ht⟩)
    have htl : (r.threads.take j).length ≤ j := by simp; omega
    obtain ⟨q0, q1, q2, q3, q4, q5, q6, q7, q8, q9, q10⟩ := blk11 (hXj.heap hB)
    by_cases hlt : j < r.threads.length
    · obtain ⟨b, off, y, rfl, hrg, hti⟩ := HI.out.threads.at_ hlt
      have HT := Lib.hid (thrsB_take r.threads j hlt)
      have HT2 := Lib.hid (List.take_succ_eq_append_getElem hlt)
      have HM := Lib.hid (List.getElem_mem hlt)
      generalize r.threads[j] = t at *
      obtain ⟨cs, tk, hld⟩ := took (rangeAt_ext hrg (hE.trans hXj)) (hti.ext (hE.trans hXj))
      obtain ⟨hreg, harg⟩ := hti.both
      obtain ⟨Y, cy, rfl, _, _⟩ := id harg
      have c19 := (rangeAt_ext hrg (hE.trans hXj)) 19 _ (thr_19 (z := (t, _)) hreg)
      simp only at c19
      have hij : (j : Int) < (r.threads.length : Int) := by omega
      clear hrg
      by_cases ha : 4 < t.args.length
      · have ea : (4 : Int) < (t.args.length : Int) := by omega
        go_wp2_with fail
        go_ret2
        exact ⟨_, _, rfl, .inr ⟨fun h => by have := h.args _ HM.out; omega, rfl, rfl⟩, hE.trans hXj⟩
      · have ea : ¬ (4 : Int) < (t.args.length : Int) := by omega
        go_wp2_with (refine wpList_load_run rfl 91 (.tmp 54) rfl _ _ rfl hld ?_)
        refine (refthread_any _ _ cs t _ wo hoj.inV tk (harg.ext (hE.trans hXj)) (HO.out.threads _ HM.out) (by simp only [List.length_append]; omega) (by omega)).mono ?_
        rintro e w5 ⟨v5, rfl, ho5, he5⟩
        have ho6 := ho5.low (base' := W.heap.size) hXj.size
        clear q0 q1 q2 q3 q4 q5 q6 q7 q8 q9 q10 c19 hld
        go_wp2_with fail
        go_roundw
        case rel => exact ⟨j + 1, by omega, by go_num, by rw [HT.out]; simpa [thrB, List.append_assoc] using ho6, by
          rw [HT2.out]
          intro t' ht'
          rcases List.mem_append.1 ht' with h | h
          · exact HA.out t' h
          · simp only [List.mem_singleton] at h
            subst h; omega, hXj.trans he5⟩
        case measure => simp [intOf]; omega
    · obtain rfl : j = r.threads.length := by omega
      have HF : Hid r.Fits := Lib.hid ⟨by omega, by omega, by omega, by have := HA.out; rwa [List.take_length] at this⟩
      rw [List.take_length] at hoj hln
      have htb : (pre ++ thrsB r.threads).length ≤ 3400 := by simp only [List.length_append]; omega
      go_wp2_with fail
      refine (refoutput_any _ _ _ r.output wo hoj.inV (HI.out.output.ext (hE.trans hXj)) HO.out.output (by omega) (by omega)).mono ?_
      rintro e w9 ⟨v9, rfl, ho9, he9⟩
      have hX9 := hXj.trans he9
      have hl9 := listB_len (outL r.output) HO.out.output (by rw [outL_len]; omega)
      rw [outL_len] at hl9
      have ho9' := ho9.low (base' := W.heap.size) hXj.size
      clear q0 q1 q2 q3 q4 q5 q6 q7 q8 q9 q10 ho9 hoj he9
      obtain ⟨q0, q1, q2, q3, q4, q5, q6, q7, q8, q9, q10⟩ := blk11 (hX9.heap hB)
      go_upto_region 14 with fail
      have hA6 := (Ext.refl w9).alloc (.cells #[.int .i64 r.s0, .int .i64 r.s1, .int .i64 r.s2, .int .i64 r.s3, .int .i64 r.s4, .int .i64 r.s5, .int .i64 r.s6] 56)
      have hX6 := hX9.trans hA6
      have hB6 := heap_alloc_new w9 (.cells #[.int .i64 r.s0, .int .i64 r.s1, .int .i64 r.s2, .int .i64 r.s3, .int .i64 r.s4, .int .i64 r.s5, .int .i64 r.s6] 56)
      have c0 := blk_at hB6 0 _ rfl
      have c1 := blk_at hB6 1 _ rfl
      have c2 := blk_at hB6 2 _ rfl
      have c3 := blk_at hB6 3 _ rfl
      have c4 := blk_at hB6 4 _ rfl
      have c5 := blk_at hB6 5 _ rfl
      have c6 := blk_at hB6 6 _ rfl
      have ho6 := ho9'.ext hA6
      clear q0 q1 q2 q3 q4 q5 q6 q7 q8 q9 q10 hA6 ho9' hB6 hX9
      generalize w9.alloc (.cells #[.int .i64 r.s0, .int .i64 r.s1, .int .i64 r.s2, .int .i64 r.s3, .int .i64 r.s4, .int .i64 r.s5, .int .i64 r.s6] 56) = w6 at *
      generalize w9.heap.size = g6 at *
      go_wp2_with fail
      have hA7 := (Ext.refl w6).alloc (.cells #[.int .i64 r.s0, .int .i64 r.s1, .int .i64 r.s2, .int .i64 r.s3, .int .i64 r.s4, .int .i64 r.s5, .int .i64 r.s6] 3)
      have hn7 := OwnV_newN (f := iv) w6 r.stop 7 rfl (by omega) #[.int .i64 r.s0, .int .i64 r.s1, .int .i64 r.s2, .int .i64 r.s3, .int .i64 r.s4, .int .i64 r.s5, .int .i64 r.s6] rfl 3
      have ho7 := ho6.ext hA7
      have hX7 := hX6.trans hA7
      clear c0 c1 c2 c3 c4 c5 c6 ho6 hX6 hA7
      generalize w6.alloc (.cells #[.int .i64 r.s0, .int .i64 r.s1, .int .i64 r.s2, .int .i64 r.s3, .int .i64 r.s4, .int .i64 r.s5, .int .i64 r.s6] 3) = w7 at *
      refine (reflist_any _ _ _ r.stop w7 ho7.inV hn7.inV HO.out.stop (by simp only [List.length_append] at htb ⊢; omega) (by simp [Rep.stop])).mono ?_
      rintro e w10 ⟨v10, rfl, ho10, he10⟩
      have ho11 := ho10.low (base' := w.heap.size) (hE.trans hX7).size
      clear ho7 hn7
      go_wp2_with fail
      go_ret2
      exact ⟨_, _, rfl, .inl ⟨HF.out, rfl, by rw [encR]; rw [HP.out] at ho11; simpa [List.append_assoc] using ho11⟩, hE.trans (hX7.trans he10)⟩
end Go.Proofs.Ytoeibcpjmoekpaa
