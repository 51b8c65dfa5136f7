/- MessageReplies: the walk. -/
import Derived.Test.YtoeibcpjmoekpaaRepB
import Derived.Test.YtoeibcpjmoekpaaRepH
import Derived.Test.YtoeibcpjmoekpaaRepJ
namespace Go.Proofs.Ytoeibcpjmoekpaa
open Go.RowKit
set_option linter.unusedVariables false

/-- one reply of the table -/
def RowR (W : World) (g j : Nat) : Prop := ∃ (x : Rep) (yw yt yo : Value), W.rangeAt g (j * 11) [.int .i64 x.err, yw, yt, yo, .int .i64 x.s0, .int .i64 x.s1, .int .i64 x.s2, .int .i64 x.s3, .int .i64 x.s4, .int .i64 x.s5, .int .i64 x.s6] ∧ RepIn W yw yt yo x ∧ x.Ok ∧ x.Mid
theorem RowR.ext {W W' : World} {g j : Nat} (h : RowR W g j) (he : Ext W W') : RowR W' g j := by
  obtain ⟨x, a, b, c, h1, h2, h3⟩ := h
  exact ⟨x, a, b, c, rangeAt_ext h1 he, h2.ext he, h3⟩
theorem RowR.out {W : World} {g j : Nat} (h : RowR W g j) : ∃ (x : Rep) (yw yt yo : Value), RepIn W yw yt yo x ∧ (x.Ok ∧ x.Mid) ∧ W.cell? ⟨g, j * 11, none⟩ = some (.int .i64 x.err) ∧ W.cell? ⟨g, j * 11 + 1, none⟩ = some yw ∧ W.cell? ⟨g, j * 11 + 2, none⟩ = some yt ∧ W.cell? ⟨g, j * 11 + 3, none⟩ = some yo ∧
    W.cell? ⟨g, j * 11 + 4, none⟩ = some (.int .i64 x.s0) ∧ W.cell? ⟨g, j * 11 + 5, none⟩ = some (.int .i64 x.s1) ∧ W.cell? ⟨g, j * 11 + 6, none⟩ = some (.int .i64 x.s2) ∧ W.cell? ⟨g, j * 11 + 7, none⟩ = some (.int .i64 x.s3) ∧ W.cell? ⟨g, j * 11 + 8, none⟩ = some (.int .i64 x.s4) ∧ W.cell? ⟨g, j * 11 + 9, none⟩ = some (.int .i64 x.s5) ∧ W.cell? ⟨g, j * 11 + 10, none⟩ = some (.int .i64 x.s6) := by
  obtain ⟨x, a, b, c, h1, h2, h3⟩ := h
  exact ⟨x, a, b, c, h2, h3, h1 0 _ rfl, h1 1 _ rfl, h1 2 _ rfl, h1 3 _ rfl, h1 4 _ rfl, h1 5 _ rfl, h1 6 _ rfl, h1 7 _ rfl, h1 8 _ rfl, h1 9 _ rfl, h1 10 _ rfl⟩
theorem RepIn.forms {w : World} {yw yt yo : Value} {r : Rep} (h : RepIn w yw yt yo r) : ∃ Aw caw At cat Ao cao, yw = .slice Aw r.words.length caw ∧ yt = .slice At r.threads.length cat ∧ yo = .slice Ao r.output.length cao := by
  obtain ⟨A, c, h1, _⟩ := h.words
  obtain ⟨B, d, h2⟩ := h.threads.form
  obtain ⟨C, e, h3⟩ := h.output.form
  exact ⟨A, c, B, d, C, e, h1, h2, h3⟩
theorem elem_rep : ElemN Try.prog 65 58 11 136 := by
  have rep_info : (Try.prog.info? 58).map (fun i => (i.zero, i.size, i.bytes)) = some (some (.agg #[.int .i64 0, .slice none 0 0, .slice none 0 0, .slice none 0 0, .int .i64 0, .int .i64 0, .int .i64 0, .int .i64 0, .int .i64 0, .int .i64 0, .int .i64 0]), 11, 136) := by kernel_rfl
  rcases hi : Try.prog.info? 58 with _ | i
  · rw [hi] at rep_info; cases rep_info
  · rw [hi] at rep_info
    simp only [Option.map_some, Option.some.injEq, Prod.mk.injEq] at rep_info
    exact ⟨Try.underlying65, by omega, i, _, hi, rep_info.1, rep_info.2.1, rep_info.2.2, rfl⟩
theorem Rep.Small.mid {r : Rep} (h : r.Small) : r.Mid := ⟨by have := h.words; omega, by have := h.threads; omega, by have := h.output; omega, fun t ht => by have := h.args t ht; omega⟩
theorem Rep.Small.near {r n : Rep} {k : Int} (h : r.Small) (hn : NearOf k r n) : n.Mid := by
  refine ⟨?_, ?_, ?_, ?_⟩
  · have := h.words; rcases hn.words with h | h <;> omega
  · rw [hn.thr, List.length_take]; omega
  · have := h.output; rcases hn.output with h | h <;> omega
  · intro t ht
    rw [hn.thr] at ht
    obtain ⟨u, hu, rfl⟩ := List.mem_map.1 (List.mem_of_mem_take ht)
    have := h.args u hu
    simp only [Thr.cut, List.length_take]
    omega
set_option maxHeartbeats 1000000 in
set_option maxRecDepth 100000 in
theorem replies_walk (u : Value) (r : Rep) (k : Int) (w : World) (hr : RepAt w u r) (hrk : r.Ok) (hrl : r.threads.length ≤ 9223372036854775807) :
    Calls Try.prog 10 #[u, .int .i64 k] w fun e w' => e = .returned (.bool true) ∧ Ext w w' := by
  obtain ⟨yw, yt, yo, rfl, hi⟩ := hr
  obtain ⟨A, ca, rfl, _, _⟩ := id hi.words
  obtain ⟨B, cb, rfl⟩ := hi.threads.form
  obtain ⟨C, cc, rfl⟩ := hi.output.form
  have HI := Lib.hid hi
  have HRK := Lib.hid hrk
  clear hi hrk
  go_enter Try.func10, Try.ntmps10
  go_upto_region 1 with fail
  obtain ⟨W, hW, hE, hB⟩ : ∃ W, W = w.alloc (.cells #[.int .i64 r.err, .slice A r.words.length ca, .slice B r.threads.length cb, .slice C r.output.length cc, .int .i64 r.s0, .int .i64 r.s1, .int .i64 r.s2, .int .i64 r.s3, .int .i64 r.s4, .int .i64 r.s5, .int .i64 r.s6] 58) ∧ Ext w W ∧ W.heap[w.heap.size]? = some (.cells #[.int .i64 r.err, .slice A r.words.length ca, .slice B r.threads.length cb, .slice C r.output.length cc, .int .i64 r.s0, .int .i64 r.s1, .int .i64 r.s2, .int .i64 r.s3, .int .i64 r.s4, .int .i64 r.s5, .int .i64 r.s6] 58 (0, 0)) := ⟨_, rfl, (Ext.refl w).alloc _, heap_alloc_new w _⟩
  rw [← hW]
  clear hW
  obtain ⟨q0, q1, q2, q3, q4, q5, q6, q7, q8, q9, q10⟩ := blk11 hB
  go_wp2_with fail
  refine (small_any _ r W ⟨_, _, _, rfl, HI.out.ext hE⟩ hrl).mono ?_
  rintro e w1 ⟨b, rfl, hb, he1⟩
  have HS := Lib.hid hb
  have hE1 := hE.trans he1
  have hB1 := he1.heap hB
  clear q0 q1 q2 q3 q4 q5 q6 q7 q8 q9 q10 hB hb he1 hE
  cases b with
  | false =>
    go_wp2_with fail
    refine (awake36_any w1).mono ?_
    rintro e w2 ⟨rfl, he⟩
    go_wp2_with fail
    go_ret
    exact ⟨rfl, hE1.trans he⟩
  | true =>
    have HSM := Lib.hid (HS.out.1 rfl)
    have hth := HSM.out.threads
    clear HS
    go_wp2_with fail
    refine wp_region_X #[true, true, true, true, true, true, true] 7 0 (by kernel_rfl) rfl ?_
    refine wpX_v 0 (.agg #[.int .i64 r.err, .slice A r.words.length ca, .slice B r.threads.length cb, .slice C r.output.length cc, .int .i64 r.s0, .int .i64 r.s1, .int .i64 r.s2, .int .i64 r.s3, .int .i64 r.s4, .int .i64 r.s5, .int .i64 r.s6]) rfl rfl (by kernel_rfl) (by kernel_rfl) (by kernel_rfl) (fun _ _ _ _ h => h) (by kernel_rfl) rfl (by rfl) (fun W' hW => by
      obtain ⟨q0, q1, q2, q3, q4, q5, q6, q7, q8, q9, q10⟩ := blk11 ((((Ext.refl w1).drew).trans hW).heap hB1)
      go_simp) ?_
    simp only [List.setIfInBounds_toArray, List.set_cons_zero, List.set_cons_succ]
    refine wpX_v 1 (.agg #[.int .i64 r.err, .slice A r.words.length ca, .slice B r.threads.length cb, .slice C r.output.length cc, .int .i64 r.s0, .int .i64 r.s1, .int .i64 r.s2, .int .i64 r.s3, .int .i64 r.s4, .int .i64 r.s5, .int .i64 r.s6]) rfl rfl (by kernel_rfl) (by kernel_rfl) (by kernel_rfl) (fun _ _ _ _ h => h) (by kernel_rfl) rfl (by rfl) (fun W' hW => by
      obtain ⟨q0, q1, q2, q3, q4, q5, q6, q7, q8, q9, q10⟩ := blk11 ((((Ext.refl w1).drew).trans hW).heap hB1)
      go_simp) ?_
    simp only [List.setIfInBounds_toArray, List.set_cons_zero, List.set_cons_succ]
    refine wpX_v 2 (.int .i64 k) rfl rfl (by kernel_rfl) (by kernel_rfl) (by kernel_rfl) (fun _ _ _ _ h => h) (by kernel_rfl) rfl (by rfl) (fun W' hW => by
      skip
      go_simp) ?_
    simp only [List.setIfInBounds_toArray, List.set_cons_zero, List.set_cons_succ]
    refine wpX_v 6 (.int .i64 0) rfl rfl (by kernel_rfl) (by kernel_rfl) (by kernel_rfl) (fun _ _ _ _ h => h) (by kernel_rfl) rfl (by rfl) (fun W' hW => by
      skip
      go_simp) ?_
    simp only [List.setIfInBounds_toArray, List.set_cons_zero, List.set_cons_succ]
    refine wpX_c 3 31 #[.agg #[.int .i64 r.err, .slice A r.words.length ca, .slice B r.threads.length cb, .slice C r.output.length cc, .int .i64 r.s0, .int .i64 r.s1, .int .i64 r.s2, .int .i64 r.s3, .int .i64 r.s4, .int .i64 r.s5, .int .i64 r.s6], .int .i64 k] rfl rfl (by kernel_rfl) rfl rfl (fun W => by go_simp) ?_
    intro W2 hW2
    have hX2 := ((Ext.refl w1).drew).trans hW2
    have hE2 := hE1.trans hX2
    refine (near_any _ r k w W2 hE2 ⟨_, _, _, rfl, HI.out⟩ (by omega)).mono ?_
    rintro e w3 ⟨yw, yt, yo, n, rfl, hno, hnn, _, he3⟩
    refine ⟨_, rfl, he3, ?_⟩
    simp only [List.setIfInBounds_toArray, List.set_cons_zero, List.set_cons_succ]
    have hE3 := hE2.trans he3
    have HNI := Lib.hid (hno.in_ hE3)
    have HNK := Lib.hid (hnn.ok HRK.out)
    have HNM := Lib.hid (HSM.out.near hnn)
    clear hno hnn
    refine wpX_m 4 rfl rfl (by kernel_rfl) rfl (by rfl) fun W4 hW4 => ?_
    have hX4 := (Ext.refl W4).alloc (.cells #[.int .i64 r.err, .slice A r.words.length ca, .slice B r.threads.length cb, .slice C r.output.length cc, .int .i64 r.s0, .int .i64 r.s1, .int .i64 r.s2, .int .i64 r.s3, .int .i64 r.s4, .int .i64 r.s5, .int .i64 r.s6, .int .i64 n.err, yw, yt, yo, .int .i64 n.s0, .int .i64 n.s1, .int .i64 n.s2, .int .i64 n.s3, .int .i64 n.s4, .int .i64 n.s5, .int .i64 n.s6] 58)
    refine ⟨.slice (some ⟨W4.heap.size, 0, none⟩) 2 2, W4.alloc (.cells #[.int .i64 r.err, .slice A r.words.length ca, .slice B r.threads.length cb, .slice C r.output.length cc, .int .i64 r.s0, .int .i64 r.s1, .int .i64 r.s2, .int .i64 r.s3, .int .i64 r.s4, .int .i64 r.s5, .int .i64 r.s6, .int .i64 n.err, yw, yt, yo, .int .i64 n.s0, .int .i64 n.s1, .int .i64 n.s2, .int .i64 n.s3, .int .i64 n.s4, .int .i64 n.s5, .int .i64 n.s6] 58), ?_, hX4, ?_⟩
    · have hrow := run_rowTwo elem_rep W4 #[.int .i64 r.err, .slice A r.words.length ca, .slice B r.threads.length cb, .slice C r.output.length cc, .int .i64 r.s0, .int .i64 r.s1, .int .i64 r.s2, .int .i64 r.s3, .int .i64 r.s4, .int .i64 r.s5, .int .i64 r.s6] #[.int .i64 n.err, yw, yt, yo, .int .i64 n.s0, .int .i64 n.s1, .int .i64 n.s2, .int .i64 n.s3, .int .i64 n.s4, .int .i64 n.s5, .int .i64 n.s6] rfl rfl (by omega)
      simp only [List.append_toArray, List.cons_append, List.nil_append] at hrow
      simp [execOp, Act.eval, hrow]
    simp only [List.setIfInBounds_toArray, List.set_cons_zero, List.set_cons_succ]
    have hb4 := heap_alloc_new W4 (.cells #[.int .i64 r.err, .slice A r.words.length ca, .slice B r.threads.length cb, .slice C r.output.length cc, .int .i64 r.s0, .int .i64 r.s1, .int .i64 r.s2, .int .i64 r.s3, .int .i64 r.s4, .int .i64 r.s5, .int .i64 r.s6, .int .i64 n.err, yw, yt, yo, .int .i64 n.s0, .int .i64 n.s1, .int .i64 n.s2, .int .i64 n.s3, .int .i64 n.s4, .int .i64 n.s5, .int .i64 n.s6] 58)
    have hE4 := (hE3.trans hW4).trans hX4
    have HNI4 := Lib.hid (HNI.out.ext (hW4.trans hX4))
    clear hX4 HNI
    generalize W4.alloc (.cells #[.int .i64 r.err, .slice A r.words.length ca, .slice B r.threads.length cb, .slice C r.output.length cc, .int .i64 r.s0, .int .i64 r.s1, .int .i64 r.s2, .int .i64 r.s3, .int .i64 r.s4, .int .i64 r.s5, .int .i64 r.s6, .int .i64 n.err, yw, yt, yo, .int .i64 n.s0, .int .i64 n.s1, .int .i64 n.s2, .int .i64 n.s3, .int .i64 n.s4, .int .i64 n.s5, .int .i64 n.s6] 58) = w4 at *
    generalize W4.heap.size = gr at *
    refine wpX_v 5 (.int .i64 2) rfl rfl (by kernel_rfl) (by kernel_rfl) (by kernel_rfl) (fun _ _ _ _ h => h) (by kernel_rfl) rfl (by rfl) (fun W' hW => by
      skip
      go_simp) ?_
    simp only [List.setIfInBounds_toArray, List.set_cons_zero, List.set_cons_succ]
    refine wpX_end rfl fun W5 hW5 => tail_none (by kernel_rfl) ?_
    refine NoPanic.normal ?_
    have hE5 := hE4.trans hW5
    have hR : ∀ j, j < 2 → RowR W5 gr j := by
      intro j hj
      rcases (show j = 0 ∨ j = 1 by omega) with rfl | rfl
      · refine ⟨r, _, _, _, ?_, HI.out.ext hE5, HRK.out, HSM.out.mid⟩
        have := World.rangeAt_of_block (hW5.heap hb4) 0 11
        simpa using this
      · refine ⟨n, yw, yt, yo, ?_, HNI4.out.ext hW5, HNK.out, HNM.out⟩
        have := World.rangeAt_of_block (hW5.heap hb4) 11 11
        simpa using this
    have HR := Lib.hid hR
    clear hR hb4 HNI4
    go_wp2_with fail
    go_loopw [23] (fun i wr => ∃ j : Nat, j ≤ 2 ∧ i = .int .i64 (j : Int) ∧ Ext W5 wr) (fun i _ => 2 - (intOf i).toNat)
    case atStart => exact ⟨0, by omega, rfl, Ext.refl W5⟩
    case round =>
      obtain ⟨j, hj, rfl, hE8⟩ := hrel
      obtain ⟨wo, rfl⟩ : ∃ wo : World, wo = wr := ⟨_, rfl⟩
      by_cases hj3 : j < 2
      rotate_left
      · obtain rfl : j = 2 := by omega
        go_wp2_with fail
        refine (awake36_any wo).mono ?_
        rintro e w1 ⟨rfl, he⟩
        go_wp2_with fail
        go_ret
        exact ⟨rfl, (hE5.trans hE8).trans he⟩
      obtain ⟨x, xw, xt, xo, ix, ox, d0, d1, d2, d3, d4, d5, d6, d7, d8, d9, d10⟩ := ((HR.out j hj3).ext hE8).out
      have OX := Lib.hid ox
      have IX := Lib.hid ix
      have GX := Lib.hid ix.threads.regs
      obtain ⟨Aw, caw, At, cat, Ao, cao, rfl, rfl, rfl⟩ := ix.forms
      clear ox ix
      have hij : (j : Int) < 2 := by omega
      go_upto_region 6 with fail
      have hbx := heap_alloc_new wo (.cells #[.int .i64 x.err, .slice Aw x.words.length caw, .slice At x.threads.length cat, .slice Ao x.output.length cao, .int .i64 x.s0, .int .i64 x.s1, .int .i64 x.s2, .int .i64 x.s3, .int .i64 x.s4, .int .i64 x.s5, .int .i64 x.s6] 58)
      have hex := (Ext.refl wo).alloc (.cells #[.int .i64 x.err, .slice Aw x.words.length caw, .slice At x.threads.length cat, .slice Ao x.output.length cao, .int .i64 x.s0, .int .i64 x.s1, .int .i64 x.s2, .int .i64 x.s3, .int .i64 x.s4, .int .i64 x.s5, .int .i64 x.s6] 58)
      generalize wo.alloc (.cells #[.int .i64 x.err, .slice Aw x.words.length caw, .slice At x.threads.length cat, .slice Ao x.output.length cao, .int .i64 x.s0, .int .i64 x.s1, .int .i64 x.s2, .int .i64 x.s3, .int .i64 x.s4, .int .i64 x.s5, .int .i64 x.s6] 58) = wx at *
      generalize wo.heap.size = gx at *
      have PX : RepAt wx (.agg #[.int .i64 x.err, .slice Aw x.words.length caw, .slice At x.threads.length cat, .slice Ao x.output.length cao, .int .i64 x.s0, .int .i64 x.s1, .int .i64 x.s2, .int .i64 x.s3, .int .i64 x.s4, .int .i64 x.s5, .int .i64 x.s6]) x := ⟨_, _, _, rfl, IX.out.ext hex⟩
      have hEx := hE8.trans hex
      clear hex hE8 d0 d1 d2 d3 d4 d5 d6 d7 d8 d9 d10 IX
      obtain ⟨q0, q1, q2, q3, q4, q5, q6, q7, q8, q9, q10⟩ := blk11 hbx
      go_wp2_with fail
      refine (EncodeReply_any _ x wx PX OX.out.1).mono ?_
      rintro e w9 ⟨y9, er9, rfl, hc9, he9⟩
      have hb9 := he9.heap hbx
      clear q0 q1 q2 q3 q4 q5 q6 q7 q8 q9 q10
      obtain ⟨q0, q1, q2, q3, q4, q5, q6, q7, q8, q9, q10⟩ := blk11 hb9
      go_wp2_with fail
      refine (refEncodeReply_any _ x w9 (PX.ext he9) OX.out.1).mono ?_
      rintro e w10 ⟨y10, er10, rfl, hc10, he10⟩
      have hb10 := he10.heap hb9
      have hE10 := (hEx.trans he9).trans he10
      replace PX := PX.ext (he9.trans he10)
      clear q0 q1 q2 q3 q4 q5 q6 q7 q8 q9 q10 hb9 hbx hEx
      rcases hc9 with ⟨hR, rfl, ho9⟩ | ⟨hR, rfl, rfl⟩
      · rcases hc10 with ⟨_, rfl, ho10⟩ | ⟨hR', _, _⟩
        rotate_left
        · exact absurd hR hR'
        have ia : InB w10 y9 (encR x) := ho9.inV.ext he10
        have ib : InB w10 y10 (encR x) := ho10.inV
        have HDO : Hid (∀ q er, DecRIs (encR x) q er → q = x ∧ er = 0) := Lib.hid fun q er h => dec_ownR OX.out.1 hR GX.out h
        have hLn := (encR_len OX.out.1 hR GX.out).2
        clear ho9 ho10 he9 he10 hR
        generalize encR x = en at *
        have hs1 := strB ia
        have hs2 := strB ib
        have neq : (en != en) = false := by simp
        obtain ⟨Y9, c9, rfl, _, _⟩ := id ia
        obtain ⟨Y10, c10, rfl, _, _⟩ := id ib
        go_wp2_with fail
        refine (DecodeReply_any _ en w10 ib (by omega)).mono ?_
        rintro e w15 ⟨v15, p15, er15, rfl, hd15, hpo, he15⟩
        obtain ⟨rfl, rfl⟩ := HDO.out _ _ hd15
        have hP15 := PX.ext he15
        have hb15 := he15.heap hb10
        have hE15 := hE10.trans he15
        obtain ⟨zw, zt, zo, rfl, hz⟩ := hpo
        obtain ⟨Zw, czw, Zt, czt, Zo, czo, rfl, rfl, rfl⟩ := hz.forms
        clear hd15 he15 ia ib hb10 PX HDO hE10 hs1 hs2 neq
        go_upto_region 12 with fail
        have hex := (Ext.refl w15).alloc (.cells #[.int .i64 p15.err, .slice Zw p15.words.length czw, .slice Zt p15.threads.length czt, .slice Zo p15.output.length czo, .int .i64 p15.s0, .int .i64 p15.s1, .int .i64 p15.s2, .int .i64 p15.s3, .int .i64 p15.s4, .int .i64 p15.s5, .int .i64 p15.s6] 58)
        have hbz := heap_alloc_new w15 (.cells #[.int .i64 p15.err, .slice Zw p15.words.length czw, .slice Zt p15.threads.length czt, .slice Zo p15.output.length czo, .int .i64 p15.s0, .int .i64 p15.s1, .int .i64 p15.s2, .int .i64 p15.s3, .int .i64 p15.s4, .int .i64 p15.s5, .int .i64 p15.s6] 58)
        have hQ16 : RepAt (w15.alloc (.cells #[.int .i64 p15.err, .slice Zw p15.words.length czw, .slice Zt p15.threads.length czt, .slice Zo p15.output.length czo, .int .i64 p15.s0, .int .i64 p15.s1, .int .i64 p15.s2, .int .i64 p15.s3, .int .i64 p15.s4, .int .i64 p15.s5, .int .i64 p15.s6] 58)) (.agg #[.int .i64 p15.err, .slice Zw p15.words.length czw, .slice Zt p15.threads.length czt, .slice Zo p15.output.length czo, .int .i64 p15.s0, .int .i64 p15.s1, .int .i64 p15.s2, .int .i64 p15.s3, .int .i64 p15.s4, .int .i64 p15.s5, .int .i64 p15.s6]) p15 := ⟨_, _, _, rfl, hz.ext hex⟩
        have hP16 := hP15.ext hex
        have hb16 := hex.heap hb15
        have hE16 := hE15.trans hex
        clear hex hz hP15 hb15 hE15
        generalize w15.alloc (.cells #[.int .i64 p15.err, .slice Zw p15.words.length czw, .slice Zt p15.threads.length czt, .slice Zo p15.output.length czo, .int .i64 p15.s0, .int .i64 p15.s1, .int .i64 p15.s2, .int .i64 p15.s3, .int .i64 p15.s4, .int .i64 p15.s5, .int .i64 p15.s6] 58) = w16 at *
        generalize w15.heap.size = gz at *
        obtain ⟨q0, q1, q2, q3, q4, q5, q6, q7, q8, q9, q10⟩ := blk11 hb16
        obtain ⟨p0, p1, p2, p3, p4, p5, p6, p7, p8, p9, p10⟩ := blk11 hbz
        go_wp2_with fail
        refine (SameReply_any _ _ p15 p15 w16 hP16 hQ16 OX.out.2 OX.out.2).mono ?_
        rintro e w17 ⟨r17, rfl, hr17, he17⟩
        obtain rfl : r17 = true := hr17.2 rfl
        have hE17 := hE16.trans he17
        clear hr17 he17 hP16 hQ16 hb16 hbz q0 q1 q2 q3 q4 q5 q6 q7 q8 q9 q10 p0 p1 p2 p3 p4 p5 p6 p7 p8 p9 p10
        go_wp2_with fail
        go_roundw
        case rel => exact ⟨j + 1, by omega, by go_num, hE17⟩
        case measure => simp [intOf]; omega
      · rcases hc10 with ⟨hR', _, _⟩ | ⟨_, rfl, rfl⟩
        · exact absurd hR' hR
        have hs1 := strB (InV.nil (f := bv) w10)
        clear he9 he10 hR
        go_wp2_with fail
        go_roundw
        case rel => exact ⟨j + 1, by omega, by go_num, hE10⟩
        case measure => simp [intOf]; omega
end Go.Proofs.Ytoeibcpjmoekpaa
