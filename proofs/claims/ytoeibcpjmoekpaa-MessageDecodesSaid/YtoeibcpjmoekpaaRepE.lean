/- MessageFits: the walk. -/
import Derived.Test.YtoeibcpjmoekpaaRepB
import Derived.Test.YtoeibcpjmoekpaaRepD
import Derived.Test.YtoeibcpjmoekpaaMsgG
namespace Go.Proofs.Ytoeibcpjmoekpaa
open Go.RowKit
set_option linter.unusedVariables false

theorem fill_step {α : Type} (x z : α) {j n : Nat} (h : j < n) : (List.replicate j x ++ List.replicate (n - j) z).set j x = List.replicate (j + 1) x ++ List.replicate (n - (j + 1)) z := by
  rw [List.set_append_right _ _ (by simp), List.length_replicate, Nat.sub_self, show n - j = (n - (j + 1)) + 1 by omega, List.replicate_succ, List.set_cons_zero, List.replicate_succ', List.append_assoc]
  rfl
theorem fill_get {α : Type} (x z : α) {j n : Nat} (h : j < n) (hl : j < (List.replicate j x ++ List.replicate (n - j) z).length) : (List.replicate j x ++ List.replicate (n - j) z)[j] = z := by
  rw [List.getElem_append_right (by simp)]
  simp
def ThrOwn (w0 w : World) (yt : Value) (ts : List Thr) : Prop := ∃ B n m c us, yt = .slice B m c ∧ m ≤ n ∧ OwnR thrCells 20 91 w0.heap.size w (.slice B n c) us ∧ us.length = n ∧ (us.take m).map Prod.fst = ts ∧ ∀ u ∈ us, ThrIn w0 u
theorem ThrOwn.at_ {w0 w : World} {yt : Value} {ts : List Thr} (h : ThrOwn w0 w yt ts) (he : Ext w0 w) : ThrsAt w yt ts := by
  obtain ⟨B, n, m, c, us, rfl, k1, k2, k3, k4, k5⟩ := h
  exact thrs_pre k1 k2 k3 k4 k5 he
theorem ThrOwn.ext {w0 w w' : World} {yt : Value} {ts : List Thr} (h : ThrOwn w0 w yt ts) (he : Ext w w') : ThrOwn w0 w' yt ts := by
  obtain ⟨B, n, m, c, us, rfl, k1, k2, k3, k4, k5⟩ := h
  exact ⟨B, n, m, c, us, rfl, k1, k2.ext he, k3, k4, k5⟩
theorem ThrOwn.kept {w0 w w' : World} {yt : Value} {ts : List Thr} {g : Nat} {cs : Array Value} {t : TypeId} {fr : Nat × Nat} (h : ThrOwn w0 w yt ts) (hb : w.heap[g]? = some (.cells cs t fr)) (hne : 91 ≠ t) (hg : w.grownBy w' (some g)) : ThrOwn w0 w' yt ts := by
  obtain ⟨B, n, m, c, us, rfl, k1, k2, k3, k4, k5⟩ := h
  exact ⟨B, n, m, c, us, rfl, k1, k2.kept hg (.inr (k2.ne_blk hb hne)), k3, k4, k5⟩
theorem OwnR.blk {α : Type} {f : α → List Value} {k : Nat} {e : TypeId} {base : Nat} {w : World} {g n cap : Nat} {l : List α} (h : OwnR f k e base w (.slice (some ⟨g, 0, none⟩) n cap) l) : ∃ cs, w.heap[g]? = some (.cells cs e (0, 0)) := by
  rcases h.2 with ⟨h', _⟩ | ⟨g', cap', cur, h', _, hg, _⟩
  · cases h'
  · simp only [Value.slice.injEq, Option.some.injEq, Addr.mk.injEq, and_true] at h'
    obtain ⟨rfl, _⟩ := h'
    exact ⟨cur, hg⟩
theorem OwnV.blk {α : Type} {f : α → Value} {e : TypeId} {base : Nat} {w : World} {g n cap : Nat} {l : List α} (h : OwnV f e base w (.slice (some ⟨g, 0, none⟩) n cap) l) : ∃ cs, w.heap[g]? = some (.cells cs e (0, 0)) := by
  rcases h.2 with ⟨h', _⟩ | ⟨g', cap', cur, h', _, hg, _⟩
  · cases h'
  · simp only [Value.slice.injEq, Option.some.injEq, Addr.mk.injEq, and_true] at h'
    obtain ⟨rfl, _⟩ := h'
    exact ⟨cur, hg⟩
theorem listB_pos (l : List Int) : 0 < (listB l).length := by
  rw [listB, uintB_nat, List.length_append]
  have := leb_pos l.length
  omega
theorem encR_len {r : Rep} (h : r.Ok) (hf : r.Fits) (hr : ∀ t ∈ r.threads, t.regs.length = 16) : 0 < (encR r).length ∧ (encR r).length ≤ 6000 := by
  have h1 := leb_len10 (zig_lt h.err.1 h.err.2)
  have h2 := listB_len r.words h.words (by have := hf.words; omega)
  have h3 := uintB_len (v := (r.threads.length : Int)) (by have := hf.threads; omega)
  have h4 := thrsB_len r.threads (fun t ht => ⟨h.threads t ht, hr t ht, hf.args t ht⟩)
  have h5 := listB_len (outL r.output) h.output (by rw [outL_len]; have := hf.output; omega)
  have h6 := listB_len r.stop h.stop (by simp [Rep.stop])
  have h7 := listB_pos r.words
  have e1 : r.stop.length = 7 := rfl
  rw [outL_len] at h5
  have := hf.words
  have := hf.output
  have := hf.threads
  simp only [encR, List.length_append]
  omega
theorem encC_len2 {c : Cmd} (h : c.Ok) (hl : c.words.length ≤ 128) : 0 < (encC c).length ∧ (encC c).length ≤ 6000 := by
  have h1 := listB_len c.head h.head (by simp [Cmd.head])
  have h2 := listB_len c.words h.words (by omega)
  have h3 := listB_pos c.head
  have e1 : c.head.length = 4 := rfl
  simp only [encC, List.length_append]
  omega
set_option maxHeartbeats 1000000 in
set_option maxRecDepth 100000 in
theorem fits_walk (v u : Value) (c : Cmd) (r : Rep) (x : Int) (w : World) (hc : CmdAt w v c) (hck : c.Ok) (hr : RepAt w u r) (hrk : r.Ok) (hrl : r.threads.length ≤ 9223372036854775807) (hx : I64 x) :
    Calls Try.prog 9 #[v, u, .int .i64 x] w fun e w' => e = .returned (.bool true) ∧ Ext w w' := by
  obtain ⟨y, rfl, hy⟩ := hc
  obtain ⟨D, cd, rfl, _, _⟩ := id hy
  obtain ⟨yw, yt, yo, rfl, hi⟩ := hr
  obtain ⟨A, ca, rfl, _, _⟩ := id hi.words
  obtain ⟨B, cb, rfl⟩ := hi.threads.form
  obtain ⟨E, ce, rfl⟩ := hi.output.form
  have HI := Lib.hid hi
  have HCK := Lib.hid hck
  have HRK := Lib.hid hrk
  have HX := Lib.hid hx
  have HRG := Lib.hid hi.threads.regs
  clear hi hck hrk hx
  go_enter Try.func9, Try.ntmps9
  go_upto_region 1 with fail
  obtain ⟨W, hW, hE, hB, hD, hsz⟩ : ∃ W, W = (w.alloc (.cells #[.int .i64 c.kind, .int .i64 c.thread, .int .i64 c.addr, .int .i64 c.n, .slice D c.words.length cd] 28)).alloc (.cells #[.int .i64 r.err, .slice A r.words.length ca, .slice B r.threads.length cb, .slice E r.output.length ce, .int .i64 r.s0, .int .i64 r.s1, .int .i64 r.s2, .int .i64 r.s3, .int .i64 r.s4, .int .i64 r.s5, .int .i64 r.s6] 58) ∧ Ext w W ∧ W.heap[w.heap.size]? = some (.cells #[.int .i64 c.kind, .int .i64 c.thread, .int .i64 c.addr, .int .i64 c.n, .slice D c.words.length cd] 28 (0, 0)) ∧ W.heap[w.heap.size + 1]? = some (.cells #[.int .i64 r.err, .slice A r.words.length ca, .slice B r.threads.length cb, .slice E r.output.length ce, .int .i64 r.s0, .int .i64 r.s1, .int .i64 r.s2, .int .i64 r.s3, .int .i64 r.s4, .int .i64 r.s5, .int .i64 r.s6] 58 (0, 0)) ∧ W.heap.size = w.heap.size + 2 := ⟨_, rfl, ((Ext.refl w).alloc _).alloc _, ((Ext.refl _).alloc _).heap (heap_alloc_new w _), by have := heap_alloc_new (w.alloc (.cells #[.int .i64 c.kind, .int .i64 c.thread, .int .i64 c.addr, .int .i64 c.n, .slice D c.words.length cd] 28)) (.cells #[.int .i64 r.err, .slice A r.words.length ca, .slice B r.threads.length cb, .slice E r.output.length ce, .int .i64 r.s0, .int .i64 r.s1, .int .i64 r.s2, .int .i64 r.s3, .int .i64 r.s4, .int .i64 r.s5, .int .i64 r.s6] 58); simpa using this, by simp⟩
  have HSZ := Lib.hid hsz
  clear hsz
  rw [← hW]
  clear hW
  obtain ⟨p0, p1, p2, p3, p4⟩ := blk5 hB
  obtain ⟨q0, q1, q2, q3, q4, q5, q6, q7, q8, q9, q10⟩ := blk11 hD
  by_cases h : 128 < c.words.length
  · have h' : (128 : Int) < (c.words.length : Int) := by omega
    go_wp2_with fail
    refine (awake36_any W).mono ?_
    rintro e w1 ⟨rfl, he⟩
    go_wp2_with fail
    go_ret
    exact ⟨rfl, hE.trans he⟩
  have h' : ¬ (128 : Int) < (c.words.length : Int) := by omega
  go_wp2_with fail
  refine (small_any _ r W ⟨_, _, _, rfl, HI.out.ext hE⟩ hrl).mono ?_
  rintro e w1 ⟨b, rfl, hb, he1⟩
  have HS := Lib.hid hb
  clear hb
  have hE1 := hE.trans he1
  have hB1 := he1.heap hB
  have hD1 := he1.heap hD
  have hs1 : w.heap.size + 2 ≤ w1.heap.size := by have := he1.size; rw [HSZ.out] at this; exact this
  clear p0 p1 p2 p3 p4 q0 q1 q2 q3 q4 q5 q6 q7 q8 q9 q10 hB hD
  cases b with
  | false =>
    go_wp2_with fail
    refine (awake36_any w1).mono ?_
    rintro e w2 ⟨rfl, he⟩
    go_wp2_with fail
    go_ret
    exact ⟨rfl, hE1.trans he⟩
  | true =>
    have HSM := Lib.hid (HS.out.1 rfl)
    have hth := HSM.out.threads
    have htw := HSM.out.words
    have hto := HSM.out.output
    obtain ⟨p0, p1, p2, p3, p4⟩ := blk5 hB1
    have f4 := blk_free hB1 4
    have hmk := run_make_row' (P := Try.prog) 26 3 _ _ Try.underlying26 int_info rfl .i64 .i64 128 (by omega) (by omega)
    simp only [Int.cast_ofNat_Int] at hmk
    have lt1 : w.heap.size < w1.heap.size := by omega
    have lt1' : w.heap.size + 1 < w1.heap.size := by omega
    go_wp2_with fail
    have hg2 : w1.grownBy (w1.setCell ⟨w.heap.size, 4, none⟩ (.slice (some ⟨w1.heap.size, 0, none⟩) 128 128)) (some w.heap.size) := gset w1 ⟨w.heap.size, 4, none⟩ (.slice (some ⟨w1.heap.size, 0, none⟩) 128 128)
    have hB2 : (w1.setCell ⟨w.heap.size, 4, none⟩ (.slice (some ⟨w1.heap.size, 0, none⟩) 128 128)).heap[w.heap.size]? = some (.cells #[.int .i64 c.kind, .int .i64 c.thread, .int .i64 c.addr, .int .i64 c.n, .slice (some ⟨w1.heap.size, 0, none⟩) 128 128] 28 (0, 0)) := blk_set hB1 4 (.slice (some ⟨w1.heap.size, 0, none⟩) 128 128)
    have hD2 := blk_grown hD1 hg2 (by simp)
    have hE2 := hE1.grown hg2 (fun k e => by cases e; omega)
    have hA3 := (Ext.refl (w1.setCell ⟨w.heap.size, 4, none⟩ (.slice (some ⟨w1.heap.size, 0, none⟩) 128 128))).alloc (.cells (madeCells #[.int .i64 0] 128) 3)
    have hsz2 : (w1.setCell ⟨w.heap.size, 4, none⟩ (.slice (some ⟨w1.heap.size, 0, none⟩) 128 128)).heap.size = w1.heap.size := by simp [World.setCell]
    have hn3 := OwnV_newN (f := iv) (w1.setCell ⟨w.heap.size, 4, none⟩ (.slice (some ⟨w1.heap.size, 0, none⟩) 128 128)) (List.replicate 0 x ++ List.replicate (128 - 0) 0) 128 (by simp) (by omega) (madeCells #[.int .i64 0] 128) (by rw [made_list]; simp [iv]) 3
    rw [hsz2] at hn3
    have hB3 := hA3.heap hB2
    have hD3 := hA3.heap hD2
    have hE3 := hE2.trans hA3
    clear hmk f4 p0 p1 p2 p3 p4 hg2 hB2 hD2 hE2 hA3 hsz2 lt1 lt1'
    generalize (w1.setCell ⟨w.heap.size, 4, none⟩ (.slice (some ⟨w1.heap.size, 0, none⟩) 128 128)).alloc (.cells (madeCells #[.int .i64 0] 128) 3) = w3 at *
    go_loopw [7] (fun i wr => ∃ j : Nat, j ≤ 128 ∧ i = .int .i64 (j : Int) ∧ OwnV iv 3 w1.heap.size wr (.slice (some ⟨w1.heap.size, 0, none⟩) 128 128) (List.replicate j x ++ List.replicate (128 - j) 0) ∧ wr.heap[w.heap.size]? = some (.cells #[.int .i64 c.kind, .int .i64 c.thread, .int .i64 c.addr, .int .i64 c.n, .slice (some ⟨w1.heap.size, 0, none⟩) 128 128] 28 (0, 0)) ∧ wr.heap[w.heap.size + 1]? = some (.cells #[.int .i64 r.err, .slice A r.words.length ca, .slice B r.threads.length cb, .slice E r.output.length ce, .int .i64 r.s0, .int .i64 r.s1, .int .i64 r.s2, .int .i64 r.s3, .int .i64 r.s4, .int .i64 r.s5, .int .i64 r.s6] 58 (0, 0)) ∧ Ext w wr) (fun i _ => 128 - (intOf i).toNat)
    case atStart => exact ⟨0, by omega, rfl, hn3, hB3, hD3, hE3⟩
    case round =>
      clear hn3 hB3 hD3 hE3
      obtain ⟨j, hj, rfl, hn, hBj, hDj, hEj⟩ := hrel
      obtain ⟨wo, rfl⟩ : ∃ wo : World, wo = wr := ⟨_, rfl⟩
      obtain ⟨p0, p1, p2, p3, p4⟩ := blk5 hBj
      have hln : 128 = (List.replicate j x ++ List.replicate (128 - j) (0 : Int)).length := by simp; omega
      by_cases hlt : j < 128
      · have hij : (j : Int) < 128 := by omega
        obtain ⟨hc0, hf0⟩ := hn.at_ hln j (by omega)
        rw [fill_get x 0 hlt] at hc0
        have hput := hn.put hln j x
        rw [fill_step x 0 hlt] at hput
        have HP := Lib.hid hput
        clear hput hln
        go_wp2_with fail
        go_roundw
        case rel =>
          have hg := HP.out.2
          exact ⟨j + 1, by omega, by go_num, HP.out.1, blk_grown hBj hg (by simp; omega), blk_grown hDj hg (by simp; omega), hEj.grown hg (fun k e => by cases e; omega)⟩
        case measure => simp [intOf]; omega
      · obtain rfl : j = 128 := by omega
        obtain ⟨q0, q1, q2, q3, q4, q5, q6, q7, q8, q9, q10⟩ := blk11 hDj
        have hn' : OwnV iv 3 w1.heap.size wo (.slice (some ⟨w1.heap.size, 0, none⟩) 128 128) (List.replicate 128 x) := by simpa using hn
        clear hn hln
        go_wp2_with fail
        refine (near_any _ r 7 w wo hEj ⟨_, _, _, rfl, HI.out⟩ (by omega)).mono ?_
        rintro e w5 ⟨yw, yt, yo, r', rfl, hown, hnear, h7, he5⟩
        obtain rfl := hnear.seven rfl
        obtain ⟨iw, io⟩ := h7 rfl
        clear h7
        have hT5 : ThrOwn w w5 yt r.near.threads := hown.threads
        obtain ⟨A2, ca2, rfl, hca2, _⟩ := id iw
        obtain ⟨E2, ce2, rfl⟩ := io.form
        obtain ⟨B2, cb2, rfl⟩ := (hT5.at_ (hEj.trans he5)).form
        have htn : r.near.threads.length ≤ 8 := by simp [Rep.near]; omega
        have HN := Lib.hid hnear
        clear hown hnear p0 p1 p2 p3 p4 q0 q1 q2 q3 q4 q5 q6 q7 q8 q9 q10
        obtain ⟨tn, htn'⟩ : ∃ tn, tn = r.near.threads.length := ⟨_, rfl⟩
        rw [← htn'] at hT5 htn ⊢
        have hB5 := he5.heap hBj
        have hD5 := he5.heap hDj
        have hn5 := hn'.ext he5
        have hE5 := hEj.trans he5
        have hs5 := he5.size
        have HTN := Lib.hid htn'
        clear htn' hBj hDj hn' hEj he5
        simp only [Rep.near]
        obtain ⟨q0, q1, q2, q3, q4, q5, q6, q7, q8, q9, q10⟩ := blk11 hD5
        obtain ⟨f0, f1, f2, f3, f4, f5, f6, f7, f8, f9, f10⟩ := blk11f hD5
        go_upto_region 9 with fail
        obtain ⟨w6, hW6, hD6, hg6⟩ := store11 hD5 (.int .i64 r.err) (.slice A2 r.words.length ca2) (.slice B2 tn cb2) (.slice E2 r.output.length ce2) (.int .i64 r.s0) (.int .i64 r.s1) (.int .i64 r.s2) (.int .i64 r.s3) (.int .i64 r.s4) (.int .i64 r.s5) (.int .i64 r.s6)
        rw [hW6]
        have hB6 := blk_grown hB5 hg6 (by simp)
        have hn6 := hn5.kept hg6 (.inr (hn5.ne_blk hD5 (by decide)))
        have hT6 := hT5.kept hD5 (by decide) hg6
        have hE6 := hE5.grown hg6 (fun k e => by cases e; omega)
        have hs6 := hg6.size
        clear hW6 q0 q1 q2 q3 q4 q5 q6 q7 q8 q9 q10 f0 f1 f2 f3 f4 f5 f6 f7 f8 f9 f10 hB5 hD5 hn5 hT5 hE5 hg6
        obtain ⟨m, hm1, hm2, hm3⟩ := min4 r.words.length 128
        replace hm3 : (if (128 : Int) < (r.words.length : Int) then (128 : Int) else (r.words.length : Int)) = (m : Int) := hm3
        have hmc : (m : Int) ≤ (ca2 : Int) := by omega
        have hml : m ≤ 128 := by split at hm3 <;> omega
        obtain ⟨q0, q1, q2, q3, q4, q5, q6, q7, q8, q9, q10⟩ := blk11 hD6
        have f1 := blk_free hD6 1
        have hg7 : w6.grownBy (w6.setCell ⟨w.heap.size + 1, 1, none⟩ (.slice A2 m ca2)) (some (w.heap.size + 1)) := gset w6 ⟨w.heap.size + 1, 1, none⟩ (.slice A2 m ca2)
        have hD7 : (w6.setCell ⟨w.heap.size + 1, 1, none⟩ (.slice A2 m ca2)).heap[w.heap.size + 1]? = some (.cells #[.int .i64 r.err, .slice A2 m ca2, .slice B2 tn cb2, .slice E2 r.output.length ce2, .int .i64 r.s0, .int .i64 r.s1, .int .i64 r.s2, .int .i64 r.s3, .int .i64 r.s4, .int .i64 r.s5, .int .i64 r.s6] 58 (0, 0)) := blk_set hD6 1 (.slice A2 m ca2)
        have hB7 := blk_grown hB6 hg7 (by simp)
        have hn7 := hn6.kept hg7 (.inr (hn6.ne_blk hD6 (by decide)))
        have hT7 := hT6.kept hD6 (by decide) hg7
        have hE7 := hE6.grown hg7 (fun k e => by cases e; omega)
        have iw7 := InV.pre2 iw m hm1
        have hs7 := hg7.size
        go_upto_region 10 with fail
        clear q0 q1 q2 q3 q4 q5 q6 q7 q8 q9 q10 f1 hm3 hmc hB6 hD6 hn6 hT6 hE6 hg7 iw hm2
        generalize w6.setCell ⟨w.heap.size + 1, 1, none⟩ (.slice A2 m ca2) = w7 at *
        obtain ⟨ip, zp, hip, hzp, hsp, hbp, _⟩ := elem_pr.info
        have hzp' : zp = .agg #[.int .i64 0, .int .i64 0] := by
          have h := pr_info
          rw [hip] at h
          simp only [Option.map_some, Option.some.injEq, Prod.mk.injEq, hzp] at h
          exact h.1
        have hmk : ∀ W, (Instr.makeSlice 54 (.int .i64 128) (.int .i64 128)).run Try.prog W = .ok (.slice (some ⟨W.heap.size, 0, none⟩) 128 128) (W.alloc (.cells (madeCells #[.int .i64 0, .int .i64 0] (128 * 2)) 62)) := fun W => by
          have h := run_make (P := Try.prog) W 54 62 ip zp Try.underlying54 hip hzp .i64 .i64 128 128 (by omega) (by omega) (by rw [hbp]; omega) (by omega)
          rw [hsp, hzp'] at h
          exact h
        clear hip hzp hsp hbp hzp'
        obtain ⟨q0, q1, q2, q3, q4, q5, q6, q7, q8, q9, q10⟩ := blk11 hD7
        have f3 := blk_free hD7 3
        have hs77 : w.heap.size + 2 ≤ w7.heap.size := by have := World.block_lt_of_cell? _ _ q0; simp only at this; omega
        have lt7 : w.heap.size < w7.heap.size := by omega
        have lt7' : w.heap.size + 1 < w7.heap.size := by omega
        go_wp2_with fail
        have hg8 : w7.grownBy (w7.setCell ⟨w.heap.size + 1, 3, none⟩ (.slice (some ⟨w7.heap.size, 0, none⟩) 128 128)) (some (w.heap.size + 1)) := gset w7 ⟨w.heap.size + 1, 3, none⟩ (.slice (some ⟨w7.heap.size, 0, none⟩) 128 128)
        have hD8 : (w7.setCell ⟨w.heap.size + 1, 3, none⟩ (.slice (some ⟨w7.heap.size, 0, none⟩) 128 128)).heap[w.heap.size + 1]? = some (.cells #[.int .i64 r.err, .slice A2 m ca2, .slice B2 tn cb2, .slice (some ⟨w7.heap.size, 0, none⟩) 128 128, .int .i64 r.s0, .int .i64 r.s1, .int .i64 r.s2, .int .i64 r.s3, .int .i64 r.s4, .int .i64 r.s5, .int .i64 r.s6] 58 (0, 0)) := blk_set hD7 3 (.slice (some ⟨w7.heap.size, 0, none⟩) 128 128)
        have hB8 := blk_grown hB7 hg8 (by simp)
        have hn8 := hn7.kept hg8 (.inr (hn7.ne_blk hD7 (by decide)))
        have hT8 := hT7.kept hD7 (by decide) hg8
        have hE8 := hE7.grown hg8 (fun k e => by cases e; omega)
        have hA9 := (Ext.refl (w7.setCell ⟨w.heap.size + 1, 3, none⟩ (.slice (some ⟨w7.heap.size, 0, none⟩) 128 128))).alloc (.cells (madeCells #[.int .i64 0, .int .i64 0] (128 * 2)) 62)
        have hsz8 : (w7.setCell ⟨w.heap.size + 1, 3, none⟩ (.slice (some ⟨w7.heap.size, 0, none⟩) 128 128)).heap.size = w7.heap.size := by simp [World.setCell]
        have ho9 := OwnR_newN (f := outCells) (k := 2) (w7.setCell ⟨w.heap.size + 1, 3, none⟩ (.slice (some ⟨w7.heap.size, 0, none⟩) 128 128)) (List.replicate 0 (x, x) ++ List.replicate (128 - 0) ((0 : Int), (0 : Int))) 128 (by simp) (by omega) (fun _ _ => rfl) (madeCells #[.int .i64 0, .int .i64 0] (128 * 2)) (by rw [made_list2]; rfl) 62
        rw [hsz8] at ho9
        have hB9 := hA9.heap hB8
        have hD9 := hA9.heap hD8
        have hE9 := hE8.trans hA9
        have hn9 := hn8.ext hA9
        have hT9 := hT8.ext hA9
        clear hmk f3 q0 q1 q2 q3 q4 q5 q6 q7 q8 q9 q10 hg8 hB8 hD8 hE8 hn8 hT8 hA9 hsz8 lt7 lt7' hB7 hD7 hn7 hT7 hE7
        generalize (w7.setCell ⟨w.heap.size + 1, 3, none⟩ (.slice (some ⟨w7.heap.size, 0, none⟩) 128 128)).alloc (.cells (madeCells #[.int .i64 0, .int .i64 0] (128 * 2)) 62) = w9 at *
        go_loopw [8] (fun i wr => ∃ j : Nat, j ≤ 128 ∧ i = .int .i64 (j : Int) ∧ OwnR outCells 2 62 w7.heap.size wr (.slice (some ⟨w7.heap.size, 0, none⟩) 128 128) (List.replicate j (x, x) ++ List.replicate (128 - j) ((0 : Int), (0 : Int))) ∧ OwnV iv 3 w1.heap.size wr (.slice (some ⟨w1.heap.size, 0, none⟩) 128 128) (List.replicate 128 x) ∧ ThrOwn w wr (.slice B2 tn cb2) r.near.threads ∧ wr.heap[w.heap.size]? = some (.cells #[.int .i64 c.kind, .int .i64 c.thread, .int .i64 c.addr, .int .i64 c.n, .slice (some ⟨w1.heap.size, 0, none⟩) 128 128] 28 (0, 0)) ∧ wr.heap[w.heap.size + 1]? = some (.cells #[.int .i64 r.err, .slice A2 m ca2, .slice B2 tn cb2, .slice (some ⟨w7.heap.size, 0, none⟩) 128 128, .int .i64 r.s0, .int .i64 r.s1, .int .i64 r.s2, .int .i64 r.s3, .int .i64 r.s4, .int .i64 r.s5, .int .i64 r.s6] 58 (0, 0)) ∧ Ext w wr) (fun i _ => 128 - (intOf i).toNat)
        case atStart => exact ⟨0, by omega, rfl, ho9, hn9, hT9, hB9, hD9, hE9⟩
        case round =>
          clear ho9 hn9 hT9 hB9 hD9 hE9
          obtain ⟨j, hj, rfl, ho, hn, hT, hBj, hDj, hEj⟩ := hrel
          obtain ⟨wp, rfl⟩ : ∃ wp : World, wp = wr := ⟨_, rfl⟩
          have hln : 128 = (List.replicate j (x, x) ++ List.replicate (128 - j) ((0 : Int), (0 : Int))).length := by simp; omega
          by_cases hlt : j < 128
          · have hij : (j : Int) < 128 := by omega
            obtain ⟨q0, q1, q2, q3, q4, q5, q6, q7, q8, q9, q10⟩ := blk11 hDj
            obtain ⟨hc0, hf0⟩ := ho.at_ hln (fun _ _ => rfl) j 0 (by omega) (by omega)
            obtain ⟨hc1, hf1⟩ := ho.at_ hln (fun _ _ => rfl) j 1 (by omega) (by omega)
            rw [fill_get (x, x) ((0 : Int), (0 : Int)) hlt] at hc0 hc1
            simp only [outCells, List.getElem?_cons_zero, List.getElem?_cons_succ, Nat.add_zero] at hc0 hf0 hc1
            obtain ⟨cs, hblk⟩ := ho.blk
            have hput := ho.put hln (fun _ _ => rfl) j 0 (by omega) (by omega) (x, 0) (.int .i64 x) (by rw [fill_get (x, x) ((0 : Int), (0 : Int)) hlt]; rfl)
            have hln2 : 128 = ((List.replicate j (x, x) ++ List.replicate (128 - j) ((0 : Int), (0 : Int))).set j (x, 0)).length := by rw [List.length_set]; exact hln
            have hput2 := hput.1.put hln2 (fun _ _ => rfl) j 1 (by omega) (by omega) (x, x) (.int .i64 x) (by rw [List.getElem_set_self]; rfl)
            rw [List.set_set, fill_step (x, x) ((0 : Int), (0 : Int)) hlt] at hput2
            have hgg := gtrans hput.2 hput2.2
            rw [Nat.add_zero] at hgg hput2
            have HP := Lib.hid hput2.1
            have HG := Lib.hid hgg
            clear hput hput2 hgg hln hln2
            go_wp2_with fail
            go_roundw
            case rel =>
              have hg := HG.out
              exact ⟨j + 1, by omega, by go_num, HP.out, hn.kept hg (.inr (hn.ne_blk hblk (by decide))), hT.kept hblk (by decide) hg, blk_grown hBj hg (by simp; omega), blk_grown hDj hg (by simp; omega), hEj.grown hg (fun k e => by cases e; omega)⟩
            case measure => simp [intOf]; omega
          · obtain rfl : j = 128 := by omega
            have ho' : OwnR outCells 2 62 w7.heap.size wp (.slice (some ⟨w7.heap.size, 0, none⟩) 128 128) (List.replicate 128 (x, x)) := by simpa using ho
            obtain ⟨p0, p1, p2, p3, p4⟩ := blk5 hBj
            obtain ⟨q0, q1, q2, q3, q4, q5, q6, q7, q8, q9, q10⟩ := blk11 hDj
            clear ho hln
            obtain ⟨cm, hcm⟩ : ∃ cm : Cmd, cm = ⟨c.kind, c.thread, c.addr, c.n, List.replicate 128 x⟩ := ⟨_, rfl⟩
            obtain ⟨rm, hrm⟩ : ∃ rm : Rep, rm = ⟨r.err, r.words.take m, r.near.threads, List.replicate 128 (x, x), r.s0, r.s1, r.s2, r.s3, r.s4, r.s5, r.s6⟩ := ⟨_, rfl⟩
            have PC : CmdAt wp (.agg #[.int .i64 c.kind, .int .i64 c.thread, .int .i64 c.addr, .int .i64 c.n, .slice (some ⟨w1.heap.size, 0, none⟩) 128 128]) cm := by subst hcm; exact ⟨_, rfl, hn.inV⟩
            have OC : cm.Ok := by subst hcm; exact ⟨HCK.out.head, fun y hy => by rw [(List.mem_replicate.1 hy).2]; exact HX.out⟩
            have LC : cm.words.length ≤ 128 := by subst hcm; simp
            have PR : RepAt wp (.agg #[.int .i64 r.err, .slice A2 m ca2, .slice B2 tn cb2, .slice (some ⟨w7.heap.size, 0, none⟩) 128 128, .int .i64 r.s0, .int .i64 r.s1, .int .i64 r.s2, .int .i64 r.s3, .int .i64 r.s4, .int .i64 r.s5, .int .i64 r.s6]) rm := by subst hrm; exact ⟨_, _, _, rfl, ⟨iw7.ext hEj, hT.at_ hEj, ho'.inR⟩⟩
            have OR : rm.Ok := by
              subst hrm
              have hk := HN.out.ok HRK.out
              refine ⟨HRK.out.err, fun y hy => HRK.out.words y (List.mem_of_mem_take hy), hk.threads, ?_, HRK.out.stop⟩
              intro y hy
              simp only [outL, List.mem_flatMap, List.mem_replicate] at hy
              obtain ⟨q, ⟨_, rfl⟩, hy⟩ := hy
              simp at hy
              subst hy
              exact HX.out
            have FR : rm.Fits := by
              subst hrm
              refine ⟨by simp; omega, by simp, by rw [← HTN.out]; exact htn, ?_⟩
              intro t ht
              obtain ⟨t', _, rfl⟩ := List.mem_map.1 (List.mem_of_mem_take (show t ∈ (r.threads.map Thr.cut).take 8 from ht))
              simp [Thr.cut]; omega
            have RR : ∀ t ∈ rm.threads, t.regs.length = 16 := PR.choose_spec.choose_spec.choose_spec.2.threads.regs
            have LA := encC_len2 OC LC
            have LB := encR_len OR FR RR
            have HOC := Lib.hid OC
            have HOR := Lib.hid OR
            have HFR := Lib.hid FR
            clear OC OR FR RR hcm hrm hn hT ho' iw7 HN HTN
            go_wp2_with fail
            refine (EncodeCommand_any _ cm wp PC HOC.out (by omega)).mono ?_
            rintro e wq ⟨ya, ea, rfl, hca, hea⟩
            rcases hca with ⟨_, rfl, hoa⟩ | ⟨hbad, _, _⟩
            rotate_left
            · omega
            clear p0 p1 p2 p3 p4 q0 q1 q2 q3 q4 q5 q6 q7 q8 q9 q10
            obtain ⟨q0, q1, q2, q3, q4, q5, q6, q7, q8, q9, q10⟩ := blk11 (hea.heap hDj)
            go_wp2_with fail
            refine (EncodeReply_any _ rm wq (PR.ext hea) HOR.out).mono ?_
            rintro e ws ⟨yb, eb, rfl, hcb, heb⟩
            rcases hcb with ⟨_, rfl, hob⟩ | ⟨hbad, _, _⟩
            rotate_left
            · exact absurd HFR.out hbad
            clear q0 q1 q2 q3 q4 q5 q6 q7 q8 q9 q10
            obtain ⟨YA, cya, rfl, _, _⟩ := hoa.inV
            obtain ⟨YB, cyb, rfl, _, _⟩ := hob.inV
            have hE11 := (hEj.trans hea).trans heb
            clear hoa hob PC PR
            generalize (encC cm).length = la at *
            generalize (encR rm).length = lb at *
            have la1 : (0 : Int) < (la : Int) := by omega
            have la2 : (la : Int) ≤ 6000 := by omega
            have lb1 : (0 : Int) < (lb : Int) := by omega
            have lb2 : (lb : Int) ≤ 6000 := by omega
            go_wp2_with fail
            refine (awake36_any ws).mono ?_
            rintro e wt ⟨rfl, he⟩
            go_wp2_with fail
            go_ret
            exact ⟨rfl, hE11.trans he⟩
end Go.Proofs.Ytoeibcpjmoekpaa
