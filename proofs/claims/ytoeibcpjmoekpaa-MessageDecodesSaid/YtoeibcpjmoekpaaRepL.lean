/- MessageOne: the walk. -/
import Derived.Test.YtoeibcpjmoekpaaRepB
import Derived.Test.YtoeibcpjmoekpaaRepK
import Derived.Test.YtoeibcpjmoekpaaRegion5
namespace Go.Proofs.Ytoeibcpjmoekpaa
open Go.RowKit
set_option linter.unusedVariables false

/-- a reply's cells -/
def repC (r : Rep) (x t y : Value) : Array Value := #[.int .i64 r.err, x, t, y, .int .i64 r.s0, .int .i64 r.s1, .int .i64 r.s2, .int .i64 r.s3, .int .i64 r.s4, .int .i64 r.s5, .int .i64 r.s6]
/-- two replies of which words and output are cut -/
structure Cut6 (r s : Rep) (g7 g8 : Nat) (t7 t8 a7 b7 c7 d7 a8 b8 c8 d8 : Value) (w : World) (f : Nat → Bool) (W : World) : Prop where
  h7 : W.heap[g7]? = some (.cells (repC r (if f 29 then b7 else a7) t7 (if f 33 then d7 else c7)) 58 (0, 0))
  h8 : W.heap[g8]? = some (.cells (repC s (if f 31 then b8 else a8) t8 (if f 35 then d8 else c8)) 58 (0, 0))
  keep : Keep2 (some g7) (some g8) w W
section
variable {r s : Rep} {g7 g8 : Nat} {t7 t8 a7 b7 c7 d7 a8 b8 c8 d8 : Value} {w : World} {f : Nat → Bool} {W : World}
theorem Cut6.w7 (h : Cut6 r s g7 g8 t7 t8 a7 b7 c7 d7 a8 b8 c8 d8 w f W) (hf : f 29 = false) : W.cell? ⟨g7, 1, none⟩ = some a7 := by
  have := blk_at h.h7 1 _ rfl
  simpa [repC, hf] using this
theorem Cut6.o7 (h : Cut6 r s g7 g8 t7 t8 a7 b7 c7 d7 a8 b8 c8 d8 w f W) (hf : f 33 = false) : W.cell? ⟨g7, 3, none⟩ = some c7 := by
  have := blk_at h.h7 3 _ rfl
  simpa [repC, hf] using this
theorem Cut6.w8 (h : Cut6 r s g7 g8 t7 t8 a7 b7 c7 d7 a8 b8 c8 d8 w f W) (hf : f 31 = false) : W.cell? ⟨g8, 1, none⟩ = some a8 := by
  have := blk_at h.h8 1 _ rfl
  simpa [repC, hf] using this
theorem Cut6.o8 (h : Cut6 r s g7 g8 t7 t8 a7 b7 c7 d7 a8 b8 c8 d8 w f W) (hf : f 35 = false) : W.cell? ⟨g8, 3, none⟩ = some c8 := by
  have := blk_at h.h8 3 _ rfl
  simpa [repC, hf] using this
theorem Cut6.s29 (h : Cut6 r s g7 g8 t7 t8 a7 b7 c7 d7 a8 b8 c8 d8 w f W) (hne : g7 ≠ g8) {f' : Nat → Bool} (h1 : f' 29 = true) (h2 : f' 31 = f 31) (h3 : f' 33 = f 33) (h4 : f' 35 = f 35) : Cut6 r s g7 g8 t7 t8 a7 b7 c7 d7 a8 b8 c8 d8 w f' (W.setCell ⟨g7, 1, none⟩ b7) := by
  refine ⟨?_, ?_, h.keep.one (gset W ⟨g7, 1, none⟩ b7)⟩
  · rw [blk_set h.h7 1 b7, h1, h3]; rfl
  · rw [h2, h4]; exact blk_far h.h8 (Ne.symm hne) _
theorem Cut6.s33 (h : Cut6 r s g7 g8 t7 t8 a7 b7 c7 d7 a8 b8 c8 d8 w f W) (hne : g7 ≠ g8) {f' : Nat → Bool} (h1 : f' 29 = f 29) (h2 : f' 31 = f 31) (h3 : f' 33 = true) (h4 : f' 35 = f 35) : Cut6 r s g7 g8 t7 t8 a7 b7 c7 d7 a8 b8 c8 d8 w f' (W.setCell ⟨g7, 3, none⟩ d7) := by
  refine ⟨?_, ?_, h.keep.one (gset W ⟨g7, 3, none⟩ d7)⟩
  · rw [blk_set h.h7 3 d7, h1, h3]; rfl
  · rw [h2, h4]; exact blk_far h.h8 (Ne.symm hne) _
theorem Cut6.s31 (h : Cut6 r s g7 g8 t7 t8 a7 b7 c7 d7 a8 b8 c8 d8 w f W) (hne : g7 ≠ g8) {f' : Nat → Bool} (h1 : f' 29 = f 29) (h2 : f' 31 = true) (h3 : f' 33 = f 33) (h4 : f' 35 = f 35) : Cut6 r s g7 g8 t7 t8 a7 b7 c7 d7 a8 b8 c8 d8 w f' (W.setCell ⟨g8, 1, none⟩ b8) := by
  refine ⟨?_, ?_, h.keep.two (gset W ⟨g8, 1, none⟩ b8)⟩
  · rw [h1, h3]; exact blk_far h.h7 hne _
  · rw [blk_set h.h8 1 b8, h2, h4]; rfl
theorem Cut6.s35 (h : Cut6 r s g7 g8 t7 t8 a7 b7 c7 d7 a8 b8 c8 d8 w f W) (hne : g7 ≠ g8) {f' : Nat → Bool} (h1 : f' 29 = f 29) (h2 : f' 31 = f 31) (h3 : f' 33 = f 33) (h4 : f' 35 = true) : Cut6 r s g7 g8 t7 t8 a7 b7 c7 d7 a8 b8 c8 d8 w f' (W.setCell ⟨g8, 3, none⟩ d8) := by
  refine ⟨?_, ?_, h.keep.two (gset W ⟨g8, 3, none⟩ d8)⟩
  · rw [h1, h3]; exact blk_far h.h7 hne _
  · rw [blk_set h.h8 3 d8, h2, h4]; rfl
theorem Cut6.free (h : Cut6 r s g7 g8 t7 t8 a7 b7 c7 d7 a8 b8 c8 d8 w f W) : ((∃ v, W.cell? ⟨g7, 1, none⟩ = some v) ∧ (∃ v, W.cell? ⟨g7, 3, none⟩ = some v) ∧ (∃ v, W.cell? ⟨g8, 1, none⟩ = some v) ∧ ∃ v, W.cell? ⟨g8, 3, none⟩ = some v) ∧ W.frozen? ⟨g7, 1, none⟩ = false ∧ W.frozen? ⟨g7, 3, none⟩ = false ∧ W.frozen? ⟨g8, 1, none⟩ = false ∧ W.frozen? ⟨g8, 3, none⟩ = false :=
  ⟨⟨⟨_, blk_at h.h7 1 _ rfl⟩, ⟨_, blk_at h.h7 3 _ rfl⟩, ⟨_, blk_at h.h8 1 _ rfl⟩, ⟨_, blk_at h.h8 3 _ rfl⟩⟩, blk_free h.h7 1, blk_free h.h7 3, blk_free h.h8 1, blk_free h.h8 3⟩
end
theorem ThrOwn.keep2 {w0 w w' : World} {yt : Value} {ts : List Thr} {g h : Nat} {cs ds : Array Value} (k : ThrOwn w0 w yt ts) (hk : Keep2 (some g) (some h) w w') (hg : w.heap[g]? = some (.cells cs 58 (0, 0))) (hh : w.heap[h]? = some (.cells ds 58 (0, 0))) : ThrOwn w0 w' yt ts := by
  obtain ⟨B, n, m, c, us, rfl, k1, k2, k3, k4, k5⟩ := k
  refine ⟨B, n, m, c, us, rfl, k1, ⟨k2.1, ?_⟩, k3, k4, k5⟩
  have n1 := k2.ne_blk hg (by decide)
  have n2 := k2.ne_blk hh (by decide)
  rcases k2.2 with h3 | ⟨b, cap, cur, e, hb, hb2, rest⟩
  · exact Or.inl h3
  · rw [e] at n1 n2
    exact Or.inr ⟨b, cap, cur, e, hb, hk.heap hb2 n1 n2, rest⟩
def Rep.cut (r : Rep) (m n : Nat) : Rep := ⟨r.err, r.words.take m, (r.threads.map Thr.cut).take 8, r.output.take n, r.s0, r.s1, r.s2, r.s3, r.s4, r.s5, r.s6⟩
theorem outL_take_mem {l : List (Int × Int)} {n : Nat} : ∀ x ∈ outL (l.take n), x ∈ outL l := by
  intro x hx
  obtain ⟨p, hp, hx⟩ := List.mem_flatMap.1 hx
  exact List.mem_flatMap.2 ⟨p, List.mem_of_mem_take hp, hx⟩
theorem Rep.cut_ok {r : Rep} (h : r.Ok) (m n : Nat) : (r.cut m n).Ok := ⟨h.err, fun x hx => h.words x (List.mem_of_mem_take hx), near_thr_ok h, fun x hx => h.output x (outL_take_mem x hx), h.stop⟩
theorem Rep.cut_fits (r : Rep) {m n : Nat} (hm : m ≤ 50) (hn : n ≤ 50) : (r.cut m n).Fits := ⟨by simp only [Rep.cut, List.length_take]; omega, by simp only [Rep.cut, List.length_take]; omega, by simp only [Rep.cut, List.length_take]; omega, fun t ht => by
  obtain ⟨u, hu, rfl⟩ := List.mem_map.1 (List.mem_of_mem_take ht)
  simp only [Thr.cut, List.length_take]; omega⟩
theorem Rep.Fits.mid {r : Rep} (h : r.Fits) : r.Mid := ⟨by have := h.words; omega, by have := h.threads; omega, by have := h.output; omega, fun t ht => by have := h.args t ht; omega⟩
theorem same_bytesC {c d : Cmd} (hc : c.Ok) (hd : d.Ok) (h1 : c.words.length ≤ 128) (h2 : d.words.length ≤ 128) : encC c = encC d ↔ c = d :=
  ⟨fun e => enc_one ⟨hc, h1, rfl⟩ ⟨hd, h2, e.symm⟩, fun e => by rw [e]⟩
theorem same_bytesR {r s : Rep} (hr : r.Ok) (hs : s.Ok) (f1 : r.Fits) (f2 : s.Fits) (g1 : ∀ t ∈ r.threads, t.regs.length = 16) (g2 : ∀ t ∈ s.threads, t.regs.length = 16) : encR r = encR s ↔ r = s :=
  ⟨fun e => rep_one ⟨hr, f1, g1, rfl⟩ ⟨hs, f2, g2, e.symm⟩, fun e => by rw [e]⟩
theorem same_bool {p : Prop} {b : Bool} {l m : List UInt8} (h : b = true ↔ p) (hl : l = m ↔ p) : b = (l == m) := by
  cases b with
  | true => exact (by simpa using hl.2 (h.1 rfl))
  | false =>
    have : ¬ l = m := fun e => by have := h.2 (hl.1 e); cases this
    simp [this]
theorem four_boxes (w : World) (a b c d : Obj) : ∃ W, W = (((w.alloc a).alloc b).alloc c).alloc d ∧ Ext w W ∧ W.heap[w.heap.size]? = some a ∧ W.heap[w.heap.size + 1]? = some b ∧ W.heap[w.heap.size + 2]? = some c ∧ W.heap[w.heap.size + 3]? = some d := by
  have h1 := heap_alloc_new w a
  have h2 := heap_alloc_new (w.alloc a) b
  have h3 := heap_alloc_new ((w.alloc a).alloc b) c
  have h4 := heap_alloc_new (((w.alloc a).alloc b).alloc c) d
  have e2 := ((Ext.refl ((w.alloc a).alloc b)).alloc c).alloc d
  have e3 := (Ext.refl (((w.alloc a).alloc b).alloc c)).alloc d
  refine ⟨_, rfl, (((((Ext.refl w).alloc _).alloc _).alloc _).alloc _), ?_, ?_, ?_, ?_⟩
  · exact ((((Ext.refl (w.alloc a)).alloc b).alloc c).alloc d).heap h1
  · simpa using e2.heap h2
  · simpa using e3.heap h3
  · simpa using h4
set_option maxHeartbeats 1000000 in
set_option maxRecDepth 100000 in
theorem one_walk (x1 x2 x3 x4 x5 : Value) (c d : Cmd) (r s : Rep) (b : List UInt8) (w : World) (hc : CmdAt w x1 c) (hd : CmdAt w x2 d) (hr : RepAt w x3 r) (hs : RepAt w x4 s) (hb : InB w x5 b) (kc : c.Ok) (kd : d.Ok) (kr : r.Ok) (ks : s.Ok)
    (lr : r.threads.length ≤ 9223372036854775807) (ls : s.threads.length ≤ 9223372036854775807) :
    Calls Try.prog 12 #[x1, x2, x3, x4, x5] w fun e w' => e = .returned (.bool true) ∧ Ext w w' := by
  obtain ⟨y5, rfl, i5⟩ := hc
  obtain ⟨D5, d5, rfl, _, _⟩ := id i5
  obtain ⟨y6, rfl, i6⟩ := hd
  obtain ⟨D6, d6, rfl, _, _⟩ := id i6
  obtain ⟨yw, yt, yo, rfl, i7⟩ := hr
  obtain ⟨A1, a1, B1, b1, E1, e1, rfl, rfl, rfl⟩ := i7.forms
  obtain ⟨zw, zt, zo, rfl, i8⟩ := hs
  obtain ⟨A2, a2, B2, b2, E2, e2, rfl, rfl, rfl⟩ := i8.forms
  obtain ⟨BB, bb, rfl, _, _⟩ := id hb
  have I5 := Lib.hid i5
  have I6 := Lib.hid i6
  have I7 := Lib.hid i7
  have I8 := Lib.hid i8
  have KC := Lib.hid kc
  have KD := Lib.hid kd
  have KR := Lib.hid kr
  have KS := Lib.hid ks
  have GR := Lib.hid i7.threads.regs
  have GS := Lib.hid i8.threads.regs
  clear i5 i6 i7 i8 kc kd kr ks
  go_enter Try.func12, Try.ntmps12
  go_upto_region 1 with fail
  obtain ⟨W, hW, hE, hC, hD, hR, hS⟩ : ∃ W, W = (((w.alloc (.cells #[.int .i64 c.kind, .int .i64 c.thread, .int .i64 c.addr, .int .i64 c.n, .slice D5 c.words.length d5] 28)).alloc (.cells #[.int .i64 d.kind, .int .i64 d.thread, .int .i64 d.addr, .int .i64 d.n, .slice D6 d.words.length d6] 28)).alloc (.cells #[.int .i64 r.err, .slice A1 r.words.length a1, .slice B1 r.threads.length b1, .slice E1 r.output.length e1, .int .i64 r.s0, .int .i64 r.s1, .int .i64 r.s2, .int .i64 r.s3, .int .i64 r.s4, .int .i64 r.s5, .int .i64 r.s6] 58)).alloc (.cells #[.int .i64 s.err, .slice A2 s.words.length a2, .slice B2 s.threads.length b2, .slice E2 s.output.length e2, .int .i64 s.s0, .int .i64 s.s1, .int .i64 s.s2, .int .i64 s.s3, .int .i64 s.s4, .int .i64 s.s5, .int .i64 s.s6] 58) ∧ Ext w W ∧ W.heap[w.heap.size]? = some (.cells #[.int .i64 c.kind, .int .i64 c.thread, .int .i64 c.addr, .int .i64 c.n, .slice D5 c.words.length d5] 28 (0, 0)) ∧ W.heap[w.heap.size + 1]? = some (.cells #[.int .i64 d.kind, .int .i64 d.thread, .int .i64 d.addr, .int .i64 d.n, .slice D6 d.words.length d6] 28 (0, 0)) ∧ W.heap[w.heap.size + 2]? = some (.cells #[.int .i64 r.err, .slice A1 r.words.length a1, .slice B1 r.threads.length b1, .slice E1 r.output.length e1, .int .i64 r.s0, .int .i64 r.s1, .int .i64 r.s2, .int .i64 r.s3, .int .i64 r.s4, .int .i64 r.s5, .int .i64 r.s6] 58 (0, 0)) ∧ W.heap[w.heap.size + 3]? = some (.cells #[.int .i64 s.err, .slice A2 s.words.length a2, .slice B2 s.threads.length b2, .slice E2 s.output.length e2, .int .i64 s.s0, .int .i64 s.s1, .int .i64 s.s2, .int .i64 s.s3, .int .i64 s.s4, .int .i64 s.s5, .int .i64 s.s6] 58 (0, 0)) := four_boxes w _ _ _ _
  rw [← hW]
  clear hW
  obtain ⟨c0, c1, c2, c3, c4⟩ := blk5 hC
  obtain ⟨k0, k1, k2, k3, k4⟩ := blk5 hD
  obtain ⟨q0, q1, q2, q3, q4, q5, q6, q7, q8, q9, q10⟩ := blk11 hR
  by_cases t0 : 20 < c.words.length
  · have t0' : decide ((20 : Int) < (c.words.length : Int)) = true := by simp; omega
    go_wp2_with fail
    refine (awake36_any W).mono ?_
    rintro e wz ⟨rfl, hez⟩
    go_wp2_with fail
    go_ret
    exact ⟨rfl, hE.trans hez⟩
  have t0' : decide ((20 : Int) < (c.words.length : Int)) = false := by simp; omega
  by_cases t1 : 20 < d.words.length
  · have t1' : decide ((20 : Int) < (d.words.length : Int)) = true := by simp; omega
    go_wp2_with fail
    refine (awake36_any W).mono ?_
    rintro e wz ⟨rfl, hez⟩
    go_wp2_with fail
    go_ret
    exact ⟨rfl, hE.trans hez⟩
  have t1' : decide ((20 : Int) < (d.words.length : Int)) = false := by simp; omega
  go_wp2_with fail
  refine (small_any _ r W ⟨_, _, _, rfl, I7.out.ext hE⟩ lr).mono ?_
  rintro e w1 ⟨f1, rfl, hf1, he1⟩
  have HF1 := Lib.hid hf1
  have hE1 := hE.trans he1
  have hC1 := he1.heap hC
  have hD1 := he1.heap hD
  have hR1 := he1.heap hR
  have hS1 := he1.heap hS
  clear c0 c1 c2 c3 c4 k0 k1 k2 k3 k4 q0 q1 q2 q3 q4 q5 q6 q7 q8 q9 q10 hC hD hR hS hf1 he1 hE
  obtain ⟨q0, q1, q2, q3, q4, q5, q6, q7, q8, q9, q10⟩ := blk11 hS1
  cases f1 with
  | false =>
    go_wp2_with fail
    refine (awake36_any w1).mono ?_
    rintro e wz ⟨rfl, hez⟩
    go_wp2_with fail
    go_ret
    exact ⟨rfl, hE1.trans hez⟩
  | true =>
  have HM1 := Lib.hid (HF1.out.1 rfl)
  clear HF1
  go_wp2_with fail
  refine (small_any _ s w1 ⟨_, _, _, rfl, I8.out.ext hE1⟩ ls).mono ?_
  rintro e w2 ⟨f2, rfl, hf2, he2⟩
  have HF2 := Lib.hid hf2
  have hE2 := hE1.trans he2
  have hC2 := he2.heap hC1
  have hD2 := he2.heap hD1
  have hR2 := he2.heap hR1
  have hS2 := he2.heap hS1
  clear q0 q1 q2 q3 q4 q5 q6 q7 q8 q9 q10 hC1 hD1 hR1 hS1 hf2 he2 hE1
  cases f2 with
  | false =>
    go_wp2_with fail
    refine (awake36_any w2).mono ?_
    rintro e wz ⟨rfl, hez⟩
    go_wp2_with fail
    go_ret
    exact ⟨rfl, hE2.trans hez⟩
  | true =>
  have HM2 := Lib.hid (HF2.out.1 rfl)
  clear HF2
  by_cases t2 : 500 < b.length
  · have t2' : decide ((500 : Int) < (b.length : Int)) = true := by simp; omega
    go_wp2_with fail
    refine (awake36_any w2).mono ?_
    rintro e wz ⟨rfl, hez⟩
    go_wp2_with fail
    go_ret
    exact ⟨rfl, hE2.trans hez⟩
  have t2' : decide ((500 : Int) < (b.length : Int)) = false := by simp; omega
  obtain ⟨c0, c1, c2, c3, c4⟩ := blk5 hC2
  go_wp2_with fail
  refine (EncodeCommand_any _ c w2 ⟨_, rfl, I5.out.ext hE2⟩ KC.out (by omega)).mono ?_
  rintro e w3 ⟨y3, er3, rfl, hc3, he3⟩
  obtain ⟨_, rfl, ho3⟩ | ⟨hc3, _, _⟩ := hc3
  rotate_left
  · omega
  have hE3 := hE2.trans he3
  have hD3 := he3.heap hD2
  have hC3 := he3.heap hC2
  have hR3 := he3.heap hR2
  have hS3 := he3.heap hS2
  clear c0 c1 c2 c3 c4 hC2 hD2 hR2 hS2 he3 hE2
  obtain ⟨k0, k1, k2, k3, k4⟩ := blk5 hD3
  go_wp2_with fail
  refine (EncodeCommand_any _ d w3 ⟨_, rfl, I6.out.ext hE3⟩ KD.out (by omega)).mono ?_
  rintro e w5 ⟨y5, er5, rfl, hc5, he5⟩
  obtain ⟨_, rfl, ho5⟩ | ⟨hc5, _, _⟩ := hc5
  rotate_left
  · omega
  have hE5 := hE3.trans he5
  have hC5 := he5.heap hC3
  have hD5 := he5.heap hD3
  have hR5 := he5.heap hR3
  have hS5 := he5.heap hS3
  have ho3' := ho3.ext he5
  clear k0 k1 k2 k3 k4 hC3 hD3 hR3 hS3 ho3 he5 hE3
  obtain ⟨Y3, y3c, rfl, _, _⟩ := ho3'.inV
  obtain ⟨Y5, y5c, rfl, _, _⟩ := ho5.inV
  have hlt5 := heap_lt hS5
  go_wp2_with fail
  refine wp_region_X #[true, true, true, true, false, false] 4 2 (by kernel_rfl) rfl ?_
  refine wpX_vt 0 (.agg #[.int .i64 r.err, .slice A1 r.words.length a1, .slice B1 r.threads.length b1, .slice E1 r.output.length e1, .int .i64 r.s0, .int .i64 r.s1, .int .i64 r.s2, .int .i64 r.s3, .int .i64 r.s4, .int .i64 r.s5, .int .i64 r.s6]) rfl rfl (by kernel_rfl) (by kernel_rfl) (by kernel_rfl) (fun _ _ _ _ h => h) (by kernel_rfl) rfl (by rfl) (fun W' hW => by
    obtain ⟨q0, q1, q2, q3, q4, q5, q6, q7, q8, q9, q10⟩ := blk11 ((((Ext.refl w5).drew).trans hW).heap hR5)
    obtain ⟨p0, p1, p2, p3, p4, p5, p6, p7, p8, p9, p10⟩ := blk11 ((((Ext.refl w5).drew).trans hW).heap hS5)
    go_simp) ?_
  simp only [List.setIfInBounds_toArray, List.set_cons_zero, List.set_cons_succ]
  refine wpX_vt 2 (.agg #[.int .i64 s.err, .slice A2 s.words.length a2, .slice B2 s.threads.length b2, .slice E2 s.output.length e2, .int .i64 s.s0, .int .i64 s.s1, .int .i64 s.s2, .int .i64 s.s3, .int .i64 s.s4, .int .i64 s.s5, .int .i64 s.s6]) rfl rfl (by kernel_rfl) (by kernel_rfl) (by kernel_rfl) (fun _ _ _ _ h => h) (by kernel_rfl) rfl (by rfl) (fun W' hW => by
    obtain ⟨q0, q1, q2, q3, q4, q5, q6, q7, q8, q9, q10⟩ := blk11 ((((Ext.refl w5).drew).trans hW).heap hR5)
    obtain ⟨p0, p1, p2, p3, p4, p5, p6, p7, p8, p9, p10⟩ := blk11 ((((Ext.refl w5).drew).trans hW).heap hS5)
    go_simp) ?_
  simp only [List.setIfInBounds_toArray, List.set_cons_zero, List.set_cons_succ]
  refine wpX_c 1 31 #[.agg #[.int .i64 r.err, .slice A1 r.words.length a1, .slice B1 r.threads.length b1, .slice E1 r.output.length e1, .int .i64 r.s0, .int .i64 r.s1, .int .i64 r.s2, .int .i64 r.s3, .int .i64 r.s4, .int .i64 r.s5, .int .i64 r.s6], .int .i64 7] rfl rfl (by kernel_rfl) rfl rfl (fun W => by go_simp) ?_
  intro W6 hW6
  have hX6 := ((Ext.refl w5).drew).trans hW6
  refine (near_any _ r 7 w W6 (hE5.trans hX6) ⟨_, _, _, rfl, I7.out⟩ (by have := HM1.out.threads; omega)).mono ?_
  rintro e w7 ⟨yw7, t7, yo7, n7, rfl, hno7, hnn7, hin7, he7⟩
  obtain rfl := hnn7.seven rfl
  obtain ⟨iw7, io7⟩ := hin7 rfl
  refine ⟨_, rfl, he7, ?_⟩
  simp only [List.setIfInBounds_toArray, List.set_cons_zero, List.set_cons_succ]
  obtain ⟨A7, a7, rfl, _, _⟩ := id iw7
  obtain ⟨O7, o7, rfl⟩ := OutAt.form io7
  have hX7 := hX6.trans he7
  have hT7 : ThrOwn w w7 t7 r.near.threads := hno7.threads
  have IW7 := Lib.hid iw7
  have IO7 := Lib.hid io7
  clear hno7 hnn7 hin7 iw7 io7
  refine wpX_c 3 31 #[.agg #[.int .i64 s.err, .slice A2 s.words.length a2, .slice B2 s.threads.length b2, .slice E2 s.output.length e2, .int .i64 s.s0, .int .i64 s.s1, .int .i64 s.s2, .int .i64 s.s3, .int .i64 s.s4, .int .i64 s.s5, .int .i64 s.s6], .int .i64 7] rfl rfl (by kernel_rfl) rfl rfl (fun W => by go_simp) ?_
  intro W8 hW8
  have hX8 := hX7.trans hW8
  refine (near_any _ s 7 w W8 (hE5.trans hX8) ⟨_, _, _, rfl, I8.out⟩ (by have := HM2.out.threads; omega)).mono ?_
  rintro e w9 ⟨yw8, t8, yo8, n8, rfl, hno8, hnn8, hin8, he9⟩
  obtain rfl := hnn8.seven rfl
  obtain ⟨iw8, io8⟩ := hin8 rfl
  refine ⟨_, rfl, he9, ?_⟩
  simp only [List.setIfInBounds_toArray, List.set_cons_zero, List.set_cons_succ]
  obtain ⟨A8, a8, rfl, _, _⟩ := id iw8
  obtain ⟨O8, o8, rfl⟩ := OutAt.form io8
  have hX9 := hX8.trans he9
  have hT9 := hT7.ext (hW8.trans he9)
  have hU9 : ThrOwn w w9 t8 s.near.threads := hno8.threads
  have IW8 := Lib.hid iw8
  have IO8 := Lib.hid io8
  clear hno8 hnn8 hin8 iw8 io8
  obtain ⟨T7, l7, m7, u7, _, rfl, _⟩ := id hT9
  obtain ⟨T8, l8, m8, u8, _, rfl, _⟩ := id hU9
  refine wpX_end rfl fun W10 hW10 => tail_seq 4 rfl (by kernel_rfl) ?_
  simp only [List.drop_succ_cons, List.drop_zero]
  have hX10 := hX9.trans hW10
  have hR10 := hX10.heap hR5
  have hS10 := hX10.heap hS5
  have hst1 := run_storeAt_blk (P := Try.prog) W10 (w.heap.size + 2) 58 58 _ (repC r (.slice A7 r.words.length a7) (.slice T7 m7 u7) (.slice O7 r.output.length o7)) hR10 rep_size rfl (by simp [repC, Value.oneCell'])
  have hg1 := gsetRow W10 (w.heap.size + 2) (repC r (.slice A7 r.words.length a7) (.slice T7 m7 u7) (.slice O7 r.output.length o7))
  have hS11 := blk_grown hS10 hg1 (by simp)
  have hst2 := run_storeAt_blk (P := Try.prog) (W10.setRow (w.heap.size + 2) (repC r (.slice A7 r.words.length a7) (.slice T7 m7 u7) (.slice O7 r.output.length o7))) (w.heap.size + 3) 58 58 _ (repC s (.slice A8 s.words.length a8) (.slice T8 m8 u8) (.slice O8 s.output.length o8)) hS11 rep_size rfl (by simp [repC, Value.oneCell'])
  go_wp2_with first | refine wpList_store_run rfl 58 (.tmp 7) (.tmp 64) rfl _ _ _ rfl rfl hst1 ?_ | refine wpList_store_run rfl 58 (.tmp 8) (.tmp 66) rfl _ _ _ rfl rfl hst2 ?_
  refine NoPanic.normal ?_
  have hg2 := gsetRow (W10.setRow (w.heap.size + 2) (repC r (.slice A7 r.words.length a7) (.slice T7 m7 u7) (.slice O7 r.output.length o7))) (w.heap.size + 3) (repC s (.slice A8 s.words.length a8) (.slice T8 m8 u8) (.slice O8 s.output.length o8))
  have hR11 := setRow_heap W10 (w.heap.size + 2) _ (repC r (.slice A7 r.words.length a7) (.slice T7 m7 u7) (.slice O7 r.output.length o7)) _ _ hR10
  have hR12 := blk_grown hR11 hg2 (by simp)
  have hS12 := setRow_heap (W10.setRow (w.heap.size + 2) (repC r (.slice A7 r.words.length a7) (.slice T7 m7 u7) (.slice O7 r.output.length o7))) (w.heap.size + 3) _ (repC s (.slice A8 s.words.length a8) (.slice T8 m8 u8) (.slice O8 s.output.length o8)) _ _ hS11
  have hT12 := ((hT9.ext hW10).kept hR10 (by decide) hg1).kept hS11 (by decide) hg2
  have hU12 := ((hU9.ext hW10).kept hR10 (by decide) hg1).kept hS11 (by decide) hg2
  have hC12 := blk_grown (blk_grown (hX10.heap hC5) hg1 (by simp)) hg2 (by simp)
  have hD12 := blk_grown (blk_grown (hX10.heap hD5) hg1 (by simp)) hg2 (by simp)
  have ho3a := (ho3'.ext hX10).kept hg1 (.inr ((ho3'.ext hX10).ne_blk hR10 (by decide)))
  have ho3b := ho3a.kept hg2 (.inr (ho3a.ne_blk hS11 (by decide)))
  have ho5a := (ho5.ext hX10).kept hg1 (.inr ((ho5.ext hX10).ne_blk hR10 (by decide)))
  have ho5b := ho5a.kept hg2 (.inr (ho5a.ne_blk hS11 (by decide)))
  have hE12 := ((hE5.trans hX10).grown hg1 (fun k e => by cases e; omega)).grown hg2 (fun k e => by cases e; omega)
  clear hst1 hst2 hg1 hg2 hR11 hS11 hT9 hU9 hT7 hC5 hD5 hR5 hS5 hR10 hS10 ho3a ho5a ho3' ho5 hX10 hX9 hX8 hX7 hX6 hW10 hW8 hW6 he7 he9 hE5
  generalize (W10.setRow (w.heap.size + 2) (repC r (.slice A7 r.words.length a7) (.slice T7 m7 u7) (.slice O7 r.output.length o7))).setRow (w.heap.size + 3) (repC s (.slice A8 s.words.length a8) (.slice T8 m8 u8) (.slice O8 s.output.length o8)) = w12 at *
  obtain ⟨m1, hm1, hk1, hv1⟩ := min4 r.words.length 50
  replace hv1 : (if (50 : Int) < (r.words.length : Int) then (50 : Int) else (r.words.length : Int)) = (m1 : Int) := hv1
  obtain ⟨m2, hm2, hk2, hv2⟩ := min4 s.words.length 50
  replace hv2 : (if (50 : Int) < (s.words.length : Int) then (50 : Int) else (s.words.length : Int)) = (m2 : Int) := hv2
  obtain ⟨m3, hm3, hk3, hv3⟩ := min4 r.output.length 50
  replace hv3 : (if (50 : Int) < (r.output.length : Int) then (50 : Int) else (r.output.length : Int)) = (m3 : Int) := hv3
  obtain ⟨m4, hm4, hk4, hv4⟩ := min4 s.output.length 50
  replace hv4 : (if (50 : Int) < (s.output.length : Int) then (50 : Int) else (s.output.length : Int)) = (m4 : Int) := hv4
  have hb1 : m1 ≤ 50 := by split at hv1 <;> omega
  replace hv1 : min (r.words.length : Int) 50 = (m1 : Int) := by split at hv1 <;> omega
  have hb2 : m2 ≤ 50 := by split at hv2 <;> omega
  replace hv2 : min (s.words.length : Int) 50 = (m2 : Int) := by split at hv2 <;> omega
  have hb3 : m3 ≤ 50 := by split at hv3 <;> omega
  replace hv3 : min (r.output.length : Int) 50 = (m3 : Int) := by split at hv3 <;> omega
  have hb4 : m4 ≤ 50 := by split at hv4 <;> omega
  replace hv4 : min (s.output.length : Int) 50 = (m4 : Int) := by split at hv4 <;> omega
  have hc7 : r.words.length ≤ a7 := by obtain ⟨_, _, e, h, _⟩ := IW7.out; cases e; exact h
  have hc8 : s.words.length ≤ a8 := by obtain ⟨_, _, e, h, _⟩ := IW8.out; cases e; exact h
  have hd7 : r.output.length ≤ o7 := by obtain ⟨_, _, e, h, _⟩ := IO7.out; cases e; exact h
  have hd8 : s.output.length ≤ o8 := by obtain ⟨_, _, e, h, _⟩ := IO8.out; cases e; exact h
  have i1 : (m1 : Int) ≤ (a7 : Int) := by omega
  have i2 : (m2 : Int) ≤ (a8 : Int) := by omega
  have i3 : (m3 : Int) ≤ (o7 : Int) := by omega
  have i4 : (m4 : Int) ≤ (o8 : Int) := by omega
  clear hk1 hk2 hk3 hk4
  have hS : Cut6 r s (w.heap.size + 2) (w.heap.size + 3) (.slice T7 m7 u7) (.slice T8 m8 u8) (.slice A7 r.words.length a7) (.slice A7 m1 a7) (.slice O7 r.output.length o7) (.slice O7 m3 o7) (.slice A8 s.words.length a8) (.slice A8 m2 a8) (.slice O8 s.output.length o8) (.slice O8 m4 o8) w12 (upF [29, 31, 33, 35] (false :: false :: false :: false :: false :: false :: false :: false :: false :: false :: false :: false :: false :: false :: false :: false :: false :: false :: false :: false :: false :: false :: false :: false :: false :: false :: false :: false :: false :: false :: false :: false :: false :: false :: false :: false :: []).toArray) w12.drew :=
    ⟨hR12, hS12, ⟨rfl, rfl, rfl, Nat.le_refl _, fun _ _ _ _ => rfl⟩⟩
  have hne : w.heap.size + 2 ≠ w.heap.size + 3 := by omega
  go_wp2_with fail
  refine wp_region_V [29, 31, 33, 35] (Cut6 r s (w.heap.size + 2) (w.heap.size + 3) (.slice T7 m7 u7) (.slice T8 m8 u8) (.slice A7 r.words.length a7) (.slice A7 m1 a7) (.slice O7 r.output.length o7) (.slice O7 m3 o7) (.slice A8 s.words.length a8) (.slice A8 m2 a8) (.slice O8 s.output.length o8) (.slice O8 m4 o8) w12) 36 (false :: false :: false :: false :: false :: false :: false :: false :: false :: false :: false :: false :: false :: false :: false :: false :: false :: false :: false :: false :: false :: false :: false :: false :: false :: false :: false :: false :: false :: false :: false :: false :: false :: false :: false :: false :: []).toArray (by kernel_rfl) rfl (by kernel_rfl) ?_
  refine wpV_v 0 (.pointer (some ⟨(w.heap.size + 2), 1, none⟩)) rfl rfl (by kernel_rfl) (by kernel_rfl) (by kernel_rfl) (fun _ _ _ _ h => h) (by kernel_rfl) hS rfl (fun W' f hW hf => by
    skip
    go_simp) (fun hS' => ?_)
  replace hS := hS'; clear hS'
  simp only [List.setIfInBounds_toArray, List.set_cons_zero, List.set_cons_succ] at hS ⊢
  refine wpV_v 1 ((.slice A7 r.words.length a7)) rfl rfl (by kernel_rfl) (by kernel_rfl) (by kernel_rfl) (fun _ _ _ _ h => h) (by kernel_rfl) hS rfl (fun W' f hW hf => by
    have qq := hW.w7 (hf 29 rfl (by kernel_rfl))
    go_simp) (fun hS' => ?_)
  replace hS := hS'; clear hS'
  simp only [List.setIfInBounds_toArray, List.set_cons_zero, List.set_cons_succ] at hS ⊢
  refine wpV_v 2 (.pointer (some ⟨(w.heap.size + 2), 1, none⟩)) rfl rfl (by kernel_rfl) (by kernel_rfl) (by kernel_rfl) (fun _ _ _ _ h => h) (by kernel_rfl) hS rfl (fun W' f hW hf => by
    skip
    go_simp) (fun hS' => ?_)
  replace hS := hS'; clear hS'
  simp only [List.setIfInBounds_toArray, List.set_cons_zero, List.set_cons_succ] at hS ⊢
  refine wpV_v 3 ((.slice A7 r.words.length a7)) rfl rfl (by kernel_rfl) (by kernel_rfl) (by kernel_rfl) (fun _ _ _ _ h => h) (by kernel_rfl) hS rfl (fun W' f hW hf => by
    have qq := hW.w7 (hf 29 rfl (by kernel_rfl))
    go_simp) (fun hS' => ?_)
  replace hS := hS'; clear hS'
  simp only [List.setIfInBounds_toArray, List.set_cons_zero, List.set_cons_succ] at hS ⊢
  refine wpV_v 4 (.int .i64 (r.words.length : Int)) rfl rfl (by kernel_rfl) (by kernel_rfl) (by kernel_rfl) (fun _ _ _ _ h => h) (by kernel_rfl) hS rfl (fun W' f hW hf => by
    skip
    go_simp) (fun hS' => ?_)
  replace hS := hS'; clear hS'
  simp only [List.setIfInBounds_toArray, List.set_cons_zero, List.set_cons_succ] at hS ⊢
  refine wpV_v 5 (.int .i64 (m1 : Int)) rfl rfl (by kernel_rfl) (by kernel_rfl) (by kernel_rfl) (fun _ _ _ _ h => h) (by kernel_rfl) hS rfl (fun W' f hW hf => by
    skip
    go_simp) (fun hS' => ?_)
  replace hS := hS'; clear hS'
  simp only [List.setIfInBounds_toArray, List.set_cons_zero, List.set_cons_succ] at hS ⊢
  refine wpV_v 6 (.slice A7 m1 a7) rfl rfl (by kernel_rfl) (by kernel_rfl) (by kernel_rfl) (fun _ _ _ _ h => h) (by kernel_rfl) hS rfl (fun W' f hW hf => by
    skip
    go_simp) (fun hS' => ?_)
  replace hS := hS'; clear hS'
  simp only [List.setIfInBounds_toArray, List.set_cons_zero, List.set_cons_succ] at hS ⊢
  refine wpV_v 7 (.pointer (some ⟨(w.heap.size + 3), 1, none⟩)) rfl rfl (by kernel_rfl) (by kernel_rfl) (by kernel_rfl) (fun _ _ _ _ h => h) (by kernel_rfl) hS rfl (fun W' f hW hf => by
    skip
    go_simp) (fun hS' => ?_)
  replace hS := hS'; clear hS'
  simp only [List.setIfInBounds_toArray, List.set_cons_zero, List.set_cons_succ] at hS ⊢
  refine wpV_v 8 ((.slice A8 s.words.length a8)) rfl rfl (by kernel_rfl) (by kernel_rfl) (by kernel_rfl) (fun _ _ _ _ h => h) (by kernel_rfl) hS rfl (fun W' f hW hf => by
    have qq := hW.w8 (hf 31 rfl (by kernel_rfl))
    go_simp) (fun hS' => ?_)
  replace hS := hS'; clear hS'
  simp only [List.setIfInBounds_toArray, List.set_cons_zero, List.set_cons_succ] at hS ⊢
  refine wpV_v 9 (.pointer (some ⟨(w.heap.size + 3), 1, none⟩)) rfl rfl (by kernel_rfl) (by kernel_rfl) (by kernel_rfl) (fun _ _ _ _ h => h) (by kernel_rfl) hS rfl (fun W' f hW hf => by
    skip
    go_simp) (fun hS' => ?_)
  replace hS := hS'; clear hS'
  simp only [List.setIfInBounds_toArray, List.set_cons_zero, List.set_cons_succ] at hS ⊢
  refine wpV_v 10 ((.slice A8 s.words.length a8)) rfl rfl (by kernel_rfl) (by kernel_rfl) (by kernel_rfl) (fun _ _ _ _ h => h) (by kernel_rfl) hS rfl (fun W' f hW hf => by
    have qq := hW.w8 (hf 31 rfl (by kernel_rfl))
    go_simp) (fun hS' => ?_)
  replace hS := hS'; clear hS'
  simp only [List.setIfInBounds_toArray, List.set_cons_zero, List.set_cons_succ] at hS ⊢
  refine wpV_v 11 (.int .i64 (s.words.length : Int)) rfl rfl (by kernel_rfl) (by kernel_rfl) (by kernel_rfl) (fun _ _ _ _ h => h) (by kernel_rfl) hS rfl (fun W' f hW hf => by
    skip
    go_simp) (fun hS' => ?_)
  replace hS := hS'; clear hS'
  simp only [List.setIfInBounds_toArray, List.set_cons_zero, List.set_cons_succ] at hS ⊢
  refine wpV_v 12 (.int .i64 (m2 : Int)) rfl rfl (by kernel_rfl) (by kernel_rfl) (by kernel_rfl) (fun _ _ _ _ h => h) (by kernel_rfl) hS rfl (fun W' f hW hf => by
    skip
    go_simp) (fun hS' => ?_)
  replace hS := hS'; clear hS'
  simp only [List.setIfInBounds_toArray, List.set_cons_zero, List.set_cons_succ] at hS ⊢
  refine wpV_v 13 (.slice A8 m2 a8) rfl rfl (by kernel_rfl) (by kernel_rfl) (by kernel_rfl) (fun _ _ _ _ h => h) (by kernel_rfl) hS rfl (fun W' f hW hf => by
    skip
    go_simp) (fun hS' => ?_)
  replace hS := hS'; clear hS'
  simp only [List.setIfInBounds_toArray, List.set_cons_zero, List.set_cons_succ] at hS ⊢
  refine wpV_v 14 (.pointer (some ⟨(w.heap.size + 2), 3, none⟩)) rfl rfl (by kernel_rfl) (by kernel_rfl) (by kernel_rfl) (fun _ _ _ _ h => h) (by kernel_rfl) hS rfl (fun W' f hW hf => by
    skip
    go_simp) (fun hS' => ?_)
  replace hS := hS'; clear hS'
  simp only [List.setIfInBounds_toArray, List.set_cons_zero, List.set_cons_succ] at hS ⊢
  refine wpV_v 15 ((.slice O7 r.output.length o7)) rfl rfl (by kernel_rfl) (by kernel_rfl) (by kernel_rfl) (fun _ _ _ _ h => h) (by kernel_rfl) hS rfl (fun W' f hW hf => by
    have qq := hW.o7 (hf 33 rfl (by kernel_rfl))
    go_simp) (fun hS' => ?_)
  replace hS := hS'; clear hS'
  simp only [List.setIfInBounds_toArray, List.set_cons_zero, List.set_cons_succ] at hS ⊢
  refine wpV_v 16 (.pointer (some ⟨(w.heap.size + 2), 3, none⟩)) rfl rfl (by kernel_rfl) (by kernel_rfl) (by kernel_rfl) (fun _ _ _ _ h => h) (by kernel_rfl) hS rfl (fun W' f hW hf => by
    skip
    go_simp) (fun hS' => ?_)
  replace hS := hS'; clear hS'
  simp only [List.setIfInBounds_toArray, List.set_cons_zero, List.set_cons_succ] at hS ⊢
  refine wpV_v 17 ((.slice O7 r.output.length o7)) rfl rfl (by kernel_rfl) (by kernel_rfl) (by kernel_rfl) (fun _ _ _ _ h => h) (by kernel_rfl) hS rfl (fun W' f hW hf => by
    have qq := hW.o7 (hf 33 rfl (by kernel_rfl))
    go_simp) (fun hS' => ?_)
  replace hS := hS'; clear hS'
  simp only [List.setIfInBounds_toArray, List.set_cons_zero, List.set_cons_succ] at hS ⊢
  refine wpV_v 18 (.int .i64 (r.output.length : Int)) rfl rfl (by kernel_rfl) (by kernel_rfl) (by kernel_rfl) (fun _ _ _ _ h => h) (by kernel_rfl) hS rfl (fun W' f hW hf => by
    skip
    go_simp) (fun hS' => ?_)
  replace hS := hS'; clear hS'
  simp only [List.setIfInBounds_toArray, List.set_cons_zero, List.set_cons_succ] at hS ⊢
  refine wpV_v 19 (.int .i64 (m3 : Int)) rfl rfl (by kernel_rfl) (by kernel_rfl) (by kernel_rfl) (fun _ _ _ _ h => h) (by kernel_rfl) hS rfl (fun W' f hW hf => by
    skip
    go_simp) (fun hS' => ?_)
  replace hS := hS'; clear hS'
  simp only [List.setIfInBounds_toArray, List.set_cons_zero, List.set_cons_succ] at hS ⊢
  refine wpV_v 20 (.slice O7 m3 o7) rfl rfl (by kernel_rfl) (by kernel_rfl) (by kernel_rfl) (fun _ _ _ _ h => h) (by kernel_rfl) hS rfl (fun W' f hW hf => by
    skip
    go_simp) (fun hS' => ?_)
  replace hS := hS'; clear hS'
  simp only [List.setIfInBounds_toArray, List.set_cons_zero, List.set_cons_succ] at hS ⊢
  refine wpV_v 21 (.pointer (some ⟨(w.heap.size + 3), 3, none⟩)) rfl rfl (by kernel_rfl) (by kernel_rfl) (by kernel_rfl) (fun _ _ _ _ h => h) (by kernel_rfl) hS rfl (fun W' f hW hf => by
    skip
    go_simp) (fun hS' => ?_)
  replace hS := hS'; clear hS'
  simp only [List.setIfInBounds_toArray, List.set_cons_zero, List.set_cons_succ] at hS ⊢
  refine wpV_v 22 ((.slice O8 s.output.length o8)) rfl rfl (by kernel_rfl) (by kernel_rfl) (by kernel_rfl) (fun _ _ _ _ h => h) (by kernel_rfl) hS rfl (fun W' f hW hf => by
    have qq := hW.o8 (hf 35 rfl (by kernel_rfl))
    go_simp) (fun hS' => ?_)
  replace hS := hS'; clear hS'
  simp only [List.setIfInBounds_toArray, List.set_cons_zero, List.set_cons_succ] at hS ⊢
  refine wpV_v 23 (.pointer (some ⟨(w.heap.size + 3), 3, none⟩)) rfl rfl (by kernel_rfl) (by kernel_rfl) (by kernel_rfl) (fun _ _ _ _ h => h) (by kernel_rfl) hS rfl (fun W' f hW hf => by
    skip
    go_simp) (fun hS' => ?_)
  replace hS := hS'; clear hS'
  simp only [List.setIfInBounds_toArray, List.set_cons_zero, List.set_cons_succ] at hS ⊢
  refine wpV_v 24 ((.slice O8 s.output.length o8)) rfl rfl (by kernel_rfl) (by kernel_rfl) (by kernel_rfl) (fun _ _ _ _ h => h) (by kernel_rfl) hS rfl (fun W' f hW hf => by
    have qq := hW.o8 (hf 35 rfl (by kernel_rfl))
    go_simp) (fun hS' => ?_)
  replace hS := hS'; clear hS'
  simp only [List.setIfInBounds_toArray, List.set_cons_zero, List.set_cons_succ] at hS ⊢
  refine wpV_v 25 (.int .i64 (s.output.length : Int)) rfl rfl (by kernel_rfl) (by kernel_rfl) (by kernel_rfl) (fun _ _ _ _ h => h) (by kernel_rfl) hS rfl (fun W' f hW hf => by
    skip
    go_simp) (fun hS' => ?_)
  replace hS := hS'; clear hS'
  simp only [List.setIfInBounds_toArray, List.set_cons_zero, List.set_cons_succ] at hS ⊢
  refine wpV_v 26 (.int .i64 (m4 : Int)) rfl rfl (by kernel_rfl) (by kernel_rfl) (by kernel_rfl) (fun _ _ _ _ h => h) (by kernel_rfl) hS rfl (fun W' f hW hf => by
    skip
    go_simp) (fun hS' => ?_)
  replace hS := hS'; clear hS'
  simp only [List.setIfInBounds_toArray, List.set_cons_zero, List.set_cons_succ] at hS ⊢
  refine wpV_v 27 (.slice O8 m4 o8) rfl rfl (by kernel_rfl) (by kernel_rfl) (by kernel_rfl) (fun _ _ _ _ h => h) (by kernel_rfl) hS rfl (fun W' f hW hf => by
    skip
    go_simp) (fun hS' => ?_)
  replace hS := hS'; clear hS'
  simp only [List.setIfInBounds_toArray, List.set_cons_zero, List.set_cons_succ] at hS ⊢
  refine wpV_v 28 (.pointer (some ⟨w.heap.size + 2, 1, none⟩)) rfl rfl (by kernel_rfl) (by kernel_rfl) (by kernel_rfl) (fun _ _ _ _ h => h) (by kernel_rfl) hS rfl (fun W' f hW hf => by
    skip
    go_simp) (fun hS' => ?_)
  replace hS := hS'; clear hS'
  simp only [List.setIfInBounds_toArray, List.set_cons_zero, List.set_cons_succ] at hS ⊢
  obtain ⟨⟨⟨_, k1⟩, ⟨_, k2⟩, ⟨_, k3⟩, _, k4⟩, z1, z2, z3, z4⟩ := hS.free
  refine wpV_s 29 (w' := w12.drew.setCell ⟨w.heap.size + 2, 1, none⟩ (.slice A7 m1 a7)) rfl rfl (by kernel_rfl) rfl (by go_simp) (hS.s29 hne rfl rfl rfl rfl) ?_
  replace hS := hS.s29 hne (f' := upF [29, 31, 33, 35] (true :: true :: true :: true :: true :: true :: true :: true :: true :: true :: true :: true :: true :: true :: true :: true :: true :: true :: true :: true :: true :: true :: true :: true :: true :: true :: true :: true :: true :: true :: false :: false :: false :: false :: false :: false :: []).toArray) rfl rfl rfl rfl
  clear k1 k2 k3 k4 z1 z2 z3 z4
  generalize w12.drew.setCell ⟨w.heap.size + 2, 1, none⟩ (.slice A7 m1 a7) = V0 at *
  simp only [List.setIfInBounds_toArray, List.set_cons_zero, List.set_cons_succ]
  refine wpV_v 30 (.pointer (some ⟨w.heap.size + 3, 1, none⟩)) rfl rfl (by kernel_rfl) (by kernel_rfl) (by kernel_rfl) (fun _ _ _ _ h => h) (by kernel_rfl) hS rfl (fun W' f hW hf => by
    skip
    go_simp) (fun hS' => ?_)
  replace hS := hS'; clear hS'
  simp only [List.setIfInBounds_toArray, List.set_cons_zero, List.set_cons_succ] at hS ⊢
  obtain ⟨⟨⟨_, k1⟩, ⟨_, k2⟩, ⟨_, k3⟩, _, k4⟩, z1, z2, z3, z4⟩ := hS.free
  refine wpV_s 31 (w' := V0.setCell ⟨w.heap.size + 3, 1, none⟩ (.slice A8 m2 a8)) rfl rfl (by kernel_rfl) rfl (by go_simp) (hS.s31 hne rfl rfl rfl rfl) ?_
  replace hS := hS.s31 hne (f' := upF [29, 31, 33, 35] (true :: true :: true :: true :: true :: true :: true :: true :: true :: true :: true :: true :: true :: true :: true :: true :: true :: true :: true :: true :: true :: true :: true :: true :: true :: true :: true :: true :: true :: true :: true :: true :: false :: false :: false :: false :: []).toArray) rfl rfl rfl rfl
  clear k1 k2 k3 k4 z1 z2 z3 z4
  generalize V0.setCell ⟨w.heap.size + 3, 1, none⟩ (.slice A8 m2 a8) = V1 at *
  simp only [List.setIfInBounds_toArray, List.set_cons_zero, List.set_cons_succ]
  refine wpV_v 32 (.pointer (some ⟨w.heap.size + 2, 3, none⟩)) rfl rfl (by kernel_rfl) (by kernel_rfl) (by kernel_rfl) (fun _ _ _ _ h => h) (by kernel_rfl) hS rfl (fun W' f hW hf => by
    skip
    go_simp) (fun hS' => ?_)
  replace hS := hS'; clear hS'
  simp only [List.setIfInBounds_toArray, List.set_cons_zero, List.set_cons_succ] at hS ⊢
  obtain ⟨⟨⟨_, k1⟩, ⟨_, k2⟩, ⟨_, k3⟩, _, k4⟩, z1, z2, z3, z4⟩ := hS.free
  refine wpV_s 33 (w' := V1.setCell ⟨w.heap.size + 2, 3, none⟩ (.slice O7 m3 o7)) rfl rfl (by kernel_rfl) rfl (by go_simp) (hS.s33 hne rfl rfl rfl rfl) ?_
  replace hS := hS.s33 hne (f' := upF [29, 31, 33, 35] (true :: true :: true :: true :: true :: true :: true :: true :: true :: true :: true :: true :: true :: true :: true :: true :: true :: true :: true :: true :: true :: true :: true :: true :: true :: true :: true :: true :: true :: true :: true :: true :: true :: true :: false :: false :: []).toArray) rfl rfl rfl rfl
  clear k1 k2 k3 k4 z1 z2 z3 z4
  generalize V1.setCell ⟨w.heap.size + 2, 3, none⟩ (.slice O7 m3 o7) = V2 at *
  simp only [List.setIfInBounds_toArray, List.set_cons_zero, List.set_cons_succ]
  refine wpV_v 34 (.pointer (some ⟨w.heap.size + 3, 3, none⟩)) rfl rfl (by kernel_rfl) (by kernel_rfl) (by kernel_rfl) (fun _ _ _ _ h => h) (by kernel_rfl) hS rfl (fun W' f hW hf => by
    skip
    go_simp) (fun hS' => ?_)
  replace hS := hS'; clear hS'
  simp only [List.setIfInBounds_toArray, List.set_cons_zero, List.set_cons_succ] at hS ⊢
  obtain ⟨⟨⟨_, k1⟩, ⟨_, k2⟩, ⟨_, k3⟩, _, k4⟩, z1, z2, z3, z4⟩ := hS.free
  refine wpV_s 35 (w' := V2.setCell ⟨w.heap.size + 3, 3, none⟩ (.slice O8 m4 o8)) rfl rfl (by kernel_rfl) rfl (by go_simp) (hS.s35 hne rfl rfl rfl rfl) ?_
  replace hS := hS.s35 hne (f' := upF [29, 31, 33, 35] (true :: true :: true :: true :: true :: true :: true :: true :: true :: true :: true :: true :: true :: true :: true :: true :: true :: true :: true :: true :: true :: true :: true :: true :: true :: true :: true :: true :: true :: true :: true :: true :: true :: true :: true :: true :: []).toArray) rfl rfl rfl rfl
  clear k1 k2 k3 k4 z1 z2 z3 z4
  generalize V2.setCell ⟨w.heap.size + 3, 3, none⟩ (.slice O8 m4 o8) = V3 at *
  simp only [List.setIfInBounds_toArray, List.set_cons_zero, List.set_cons_succ]
  refine wpV_end (by kernel_rfl) ?_
  refine NoPanic.normal ?_
  have hR13 : V3.heap[w.heap.size + 2]? = some (.cells #[.int .i64 r.err, (.slice A7 m1 a7), (.slice T7 m7 u7), (.slice O7 m3 o7), .int .i64 r.s0, .int .i64 r.s1, .int .i64 r.s2, .int .i64 r.s3, .int .i64 r.s4, .int .i64 r.s5, .int .i64 r.s6] 58 (0, 0)) := hS.h7
  have hS13 : V3.heap[w.heap.size + 3]? = some (.cells #[.int .i64 s.err, (.slice A8 m2 a8), (.slice T8 m8 u8), (.slice O8 m4 o8), .int .i64 s.s0, .int .i64 s.s1, .int .i64 s.s2, .int .i64 s.s3, .int .i64 s.s4, .int .i64 s.s5, .int .i64 s.s6] 58 (0, 0)) := hS.h8
  have hK := hS.keep
  have hC13 := hK.heap hC12 (by simp) (by simp)
  have hD13 := hK.heap hD12 (by simp) (by simp)
  have ho3c := hK.ownV ho3b (.inr (ho3b.ne_blk hR12 (by decide))) (.inr (ho3b.ne_blk hS12 (by decide)))
  have ho5c := hK.ownV ho5b (.inr (ho5b.ne_blk hR12 (by decide))) (.inr (ho5b.ne_blk hS12 (by decide)))
  have hT13 := hT12.keep2 hK hR12 hS12
  have hU13 := hU12.keep2 hK hR12 hS12
  have hE13 := hK.of_ext hE12 (fun k e => by cases e; omega) (fun k e => by cases e; omega)
  have HFR := Lib.hid (r.cut_fits hb1 hb3)
  have HFS := Lib.hid (s.cut_fits hb2 hb4)
  have HOR := Lib.hid (Rep.cut_ok KR.out m1 m3)
  have HOS := Lib.hid (Rep.cut_ok KS.out m2 m4)
  have HRA : Hid (∀ W, Ext V3 W → RepAt W (.agg #[.int .i64 r.err, (.slice A7 m1 a7), (.slice T7 m7 u7), (.slice O7 m3 o7), .int .i64 r.s0, .int .i64 r.s1, .int .i64 r.s2, .int .i64 r.s3, .int .i64 r.s4, .int .i64 r.s5, .int .i64 r.s6]) (r.cut m1 m3)) := Lib.hid fun W hW => ⟨_, _, _, rfl, ⟨(IW7.out.pre2 m1 hm1).ext (hE13.trans hW), (hT13.at_ hE13).ext hW, (InR.pre2 (k := 2) IO7.out (fun _ _ => rfl) m3 hm3).ext (hE13.trans hW)⟩⟩
  have HSA : Hid (∀ W, Ext V3 W → RepAt W (.agg #[.int .i64 s.err, (.slice A8 m2 a8), (.slice T8 m8 u8), (.slice O8 m4 o8), .int .i64 s.s0, .int .i64 s.s1, .int .i64 s.s2, .int .i64 s.s3, .int .i64 s.s4, .int .i64 s.s5, .int .i64 s.s6]) (s.cut m2 m4)) := Lib.hid fun W hW => ⟨_, _, _, rfl, ⟨(IW8.out.pre2 m2 hm2).ext (hE13.trans hW), (hU13.at_ hE13).ext hW, (InR.pre2 (k := 2) IO8.out (fun _ _ => rfl) m4 hm4).ext (hE13.trans hW)⟩⟩
  have HGR : Hid (∀ t ∈ (r.cut m1 m3).threads, t.regs.length = 16) := Lib.hid fun t ht => by
    obtain ⟨u, hu, rfl⟩ := List.mem_map.1 (List.mem_of_mem_take ht)
    exact GR.out u hu
  have HGS : Hid (∀ t ∈ (s.cut m2 m4).threads, t.regs.length = 16) := Lib.hid fun t ht => by
    obtain ⟨u, hu, rfl⟩ := List.mem_map.1 (List.mem_of_mem_take ht)
    exact GS.out u hu
  clear hS hK hC12 hD12 ho3b ho5b hT12 hU12 hT13 hU13 hR12 hS12 hE12 IW7 IW8 IO7 IO8 hm1 hm2 hm3 hm4 hv1 hv2 hv3 hv4 i1 i2 i3 i4 hc7 hc8 hd7 hd8 hne
  obtain ⟨q0, q1, q2, q3, q4, q5, q6, q7, q8, q9, q10⟩ := blk11 hR13
  go_wp2_with fail
  refine (EncodeReply_any _ _ V3 (HRA.out _ (Ext.refl _)) HOR.out).mono ?_
  rintro e w14 ⟨y14, er14, rfl, hc14, he14⟩
  obtain ⟨_, rfl, ho14⟩ | ⟨hc14, _, _⟩ := hc14
  rotate_left
  · exact absurd HFR.out hc14
  clear q0 q1 q2 q3 q4 q5 q6 q7 q8 q9 q10
  obtain ⟨q0, q1, q2, q3, q4, q5, q6, q7, q8, q9, q10⟩ := blk11 (he14.heap hS13)
  go_wp2_with fail
  refine (EncodeReply_any _ _ w14 (HSA.out _ he14) HOS.out).mono ?_
  rintro e w15 ⟨y15, er15, rfl, hc15, he15⟩
  obtain ⟨_, rfl, ho15⟩ | ⟨hc15, _, _⟩ := hc15
  rotate_left
  · exact absurd HFS.out hc15
  clear q0 q1 q2 q3 q4 q5 q6 q7 q8 q9 q10
  have hX15 := he14.trans he15
  have hE15 := hE13.trans hX15
  have hR15 := hX15.heap hR13
  have hS15 := hX15.heap hS13
  have hC15 := hX15.heap hC13
  have hD15 := hX15.heap hD13
  have ho3f := ho3c.ext hX15
  have ho5f := ho5c.ext hX15
  have ho13f := ho14.ext he15
  have ho15f := ho15
  replace HRA : Hid (∀ W, Ext w15 W → RepAt W (.agg #[.int .i64 r.err, (.slice A7 m1 a7), (.slice T7 m7 u7), (.slice O7 m3 o7), .int .i64 r.s0, .int .i64 r.s1, .int .i64 r.s2, .int .i64 r.s3, .int .i64 r.s4, .int .i64 r.s5, .int .i64 r.s6]) (r.cut m1 m3)) := Lib.hid fun W hW => HRA.out W (hX15.trans hW)
  replace HSA : Hid (∀ W, Ext w15 W → RepAt W (.agg #[.int .i64 s.err, (.slice A8 m2 a8), (.slice T8 m8 u8), (.slice O8 m4 o8), .int .i64 s.s0, .int .i64 s.s1, .int .i64 s.s2, .int .i64 s.s3, .int .i64 s.s4, .int .i64 s.s5, .int .i64 s.s6]) (s.cut m2 m4)) := Lib.hid fun W hW => HSA.out W (hX15.trans hW)
  have HCD := Lib.hid (same_bytesC KC.out KD.out (by omega) (by omega))
  have HRS := Lib.hid (same_bytesR HOR.out HOS.out HFR.out HFS.out HGR.out HGS.out)
  obtain ⟨Y13, y13c, rfl, _, _⟩ := ho13f.inV
  obtain ⟨Y15, y15c, rfl, _, _⟩ := ho15f.inV
  clear hX15 he14 he15 ho14 ho15 ho3c ho5c hR13 hS13 hC13 hD13 hE13 HGR HGS
  generalize encC c = ec at *
  generalize encC d = ed at *
  generalize encR (r.cut m1 m3) = er at *
  generalize encR (s.cut m2 m4) = es at *
  go_wp2_with fail
  refine wp_region_X (true :: true :: true :: true :: true :: true :: true :: true :: true :: true :: true :: true :: true :: true :: true :: true :: true :: true :: true :: true :: true :: true :: true :: true :: true :: true :: true :: true :: true :: true :: true :: true :: true :: true :: true :: true :: []).toArray 36 0 (by kernel_rfl) rfl ?_
  refine wpX_v 0 (.int .i64 0) rfl rfl (by kernel_rfl) (by kernel_rfl) (by kernel_rfl) (fun _ _ _ _ h => h) (by kernel_rfl) rfl (by rfl) (fun W' hW => by
    skip
    go_simp) ?_
  simp only [List.setIfInBounds_toArray, List.set_cons_zero, List.set_cons_succ]
  refine wpX_v 1 (.bool false) rfl rfl (by kernel_rfl) (by kernel_rfl) (by kernel_rfl) (fun _ _ _ _ h => h) (by kernel_rfl) rfl (by rfl) (fun W' hW => by
    skip
    go_simp) ?_
  simp only [List.setIfInBounds_toArray, List.set_cons_zero, List.set_cons_succ]
  refine wpX_v 2 (.bool false) rfl rfl (by kernel_rfl) (by kernel_rfl) (by kernel_rfl) (fun _ _ _ _ h => h) (by kernel_rfl) rfl (by rfl) (fun W' hW => by
    skip
    go_simp) ?_
  simp only [List.setIfInBounds_toArray, List.set_cons_zero, List.set_cons_succ]
  refine wpX_v 3 (.int .i64 0) rfl rfl (by kernel_rfl) (by kernel_rfl) (by kernel_rfl) (fun _ _ _ _ h => h) (by kernel_rfl) rfl (by rfl) (fun W' hW => by
    skip
    go_simp) ?_
  simp only [List.setIfInBounds_toArray, List.set_cons_zero, List.set_cons_succ]
  refine wpX_v 4 (.bool false) rfl rfl (by kernel_rfl) (by kernel_rfl) (by kernel_rfl) (fun _ _ _ _ h => h) (by kernel_rfl) rfl (by rfl) (fun W' hW => by
    skip
    go_simp) ?_
  simp only [List.setIfInBounds_toArray, List.set_cons_zero, List.set_cons_succ]
  refine wpX_v 5 (.bool false) rfl rfl (by kernel_rfl) (by kernel_rfl) (by kernel_rfl) (fun _ _ _ _ h => h) (by kernel_rfl) rfl (by rfl) (fun W' hW => by
    skip
    go_simp) ?_
  simp only [List.setIfInBounds_toArray, List.set_cons_zero, List.set_cons_succ]
  refine wpX_v 6 (.bool false) rfl rfl (by kernel_rfl) (by kernel_rfl) (by kernel_rfl) (fun _ _ _ _ h => h) (by kernel_rfl) rfl (by rfl) (fun W' hW => by
    skip
    go_simp) ?_
  simp only [List.setIfInBounds_toArray, List.set_cons_zero, List.set_cons_succ]
  refine wpX_v 7 (.int .i64 0) rfl rfl (by kernel_rfl) (by kernel_rfl) (by kernel_rfl) (fun _ _ _ _ h => h) (by kernel_rfl) rfl (by rfl) (fun W' hW => by
    skip
    go_simp) ?_
  simp only [List.setIfInBounds_toArray, List.set_cons_zero, List.set_cons_succ]
  refine wpX_v 8 (.bool false) rfl rfl (by kernel_rfl) (by kernel_rfl) (by kernel_rfl) (fun _ _ _ _ h => h) (by kernel_rfl) rfl (by rfl) (fun W' hW => by
    skip
    go_simp) ?_
  simp only [List.setIfInBounds_toArray, List.set_cons_zero, List.set_cons_succ]
  refine wpX_v 9 (.bool false) rfl rfl (by kernel_rfl) (by kernel_rfl) (by kernel_rfl) (fun _ _ _ _ h => h) (by kernel_rfl) rfl (by rfl) (fun W' hW => by
    skip
    go_simp) ?_
  simp only [List.setIfInBounds_toArray, List.set_cons_zero, List.set_cons_succ]
  refine wpX_v 10 (.bool false) rfl rfl (by kernel_rfl) (by kernel_rfl) (by kernel_rfl) (fun _ _ _ _ h => h) (by kernel_rfl) rfl (by rfl) (fun W' hW => by
    skip
    go_simp) ?_
  simp only [List.setIfInBounds_toArray, List.set_cons_zero, List.set_cons_succ]
  refine wpX_v 11 (.int .i64 0) rfl rfl (by kernel_rfl) (by kernel_rfl) (by kernel_rfl) (fun _ _ _ _ h => h) (by kernel_rfl) rfl (by rfl) (fun W' hW => by
    skip
    go_simp) ?_
  simp only [List.setIfInBounds_toArray, List.set_cons_zero, List.set_cons_succ]
  refine wpX_v 12 (.bool false) rfl rfl (by kernel_rfl) (by kernel_rfl) (by kernel_rfl) (fun _ _ _ _ h => h) (by kernel_rfl) rfl (by rfl) (fun W' hW => by
    skip
    go_simp) ?_
  simp only [List.setIfInBounds_toArray, List.set_cons_zero, List.set_cons_succ]
  refine wpX_v 13 (.bool false) rfl rfl (by kernel_rfl) (by kernel_rfl) (by kernel_rfl) (fun _ _ _ _ h => h) (by kernel_rfl) rfl (by rfl) (fun W' hW => by
    skip
    go_simp) ?_
  simp only [List.setIfInBounds_toArray, List.set_cons_zero, List.set_cons_succ]
  refine wpX_v 14 (.bool false) rfl rfl (by kernel_rfl) (by kernel_rfl) (by kernel_rfl) (fun _ _ _ _ h => h) (by kernel_rfl) rfl (by rfl) (fun W' hW => by
    skip
    go_simp) ?_
  simp only [List.setIfInBounds_toArray, List.set_cons_zero, List.set_cons_succ]
  refine wpX_v 15 (.slice Y3 ec.length y3c) rfl rfl (by kernel_rfl) (by kernel_rfl) (by kernel_rfl) (fun _ _ _ _ h => h) (by kernel_rfl) rfl (by rfl) (fun W' hW => by
    skip
    go_simp) ?_
  simp only [List.setIfInBounds_toArray, List.set_cons_zero, List.set_cons_succ]
  refine wpX_v 16 (.string ⟨ec.toArray⟩) rfl rfl (by kernel_rfl) (by kernel_rfl) (by kernel_rfl) (fun _ _ _ _ h => h) (by kernel_rfl) rfl (by rfl) (fun W' hW => by
    have ss := strB ((ho3f.ext (((Ext.refl w15).drew).trans hW)).inV)
    go_simp) ?_
  simp only [List.setIfInBounds_toArray, List.set_cons_zero, List.set_cons_succ]
  refine wpX_v 17 (.slice Y5 ed.length y5c) rfl rfl (by kernel_rfl) (by kernel_rfl) (by kernel_rfl) (fun _ _ _ _ h => h) (by kernel_rfl) rfl (by rfl) (fun W' hW => by
    skip
    go_simp) ?_
  simp only [List.setIfInBounds_toArray, List.set_cons_zero, List.set_cons_succ]
  refine wpX_v 18 (.string ⟨ed.toArray⟩) rfl rfl (by kernel_rfl) (by kernel_rfl) (by kernel_rfl) (fun _ _ _ _ h => h) (by kernel_rfl) rfl (by rfl) (fun W' hW => by
    have ss := strB ((ho5f.ext (((Ext.refl w15).drew).trans hW)).inV)
    go_simp) ?_
  simp only [List.setIfInBounds_toArray, List.set_cons_zero, List.set_cons_succ]
  refine wpX_v 19 (.bool (ec == ed)) rfl rfl (by kernel_rfl) (by kernel_rfl) (by kernel_rfl) (fun _ _ _ _ h => h) (by kernel_rfl) rfl (by rfl) (fun W' hW => by
    skip
    go_simp) ?_
  simp only [List.setIfInBounds_toArray, List.set_cons_zero, List.set_cons_succ]
  refine wpX_v 20 (.agg #[.int .i64 c.kind, .int .i64 c.thread, .int .i64 c.addr, .int .i64 c.n, .slice D5 c.words.length d5]) rfl rfl (by kernel_rfl) (by kernel_rfl) (by kernel_rfl) (fun _ _ _ _ h => h) (by kernel_rfl) rfl (by rfl) (fun W' hW => by
    obtain ⟨q0, q1, q2, q3, q4⟩ := blk5 ((((Ext.refl w15).drew).trans hW).heap hC15)
    obtain ⟨p0, p1, p2, p3, p4⟩ := blk5 ((((Ext.refl w15).drew).trans hW).heap hD15)
    go_simp) ?_
  simp only [List.setIfInBounds_toArray, List.set_cons_zero, List.set_cons_succ]
  refine wpX_v 21 (.agg #[.int .i64 d.kind, .int .i64 d.thread, .int .i64 d.addr, .int .i64 d.n, .slice D6 d.words.length d6]) rfl rfl (by kernel_rfl) (by kernel_rfl) (by kernel_rfl) (fun _ _ _ _ h => h) (by kernel_rfl) rfl (by rfl) (fun W' hW => by
    obtain ⟨q0, q1, q2, q3, q4⟩ := blk5 ((((Ext.refl w15).drew).trans hW).heap hC15)
    obtain ⟨p0, p1, p2, p3, p4⟩ := blk5 ((((Ext.refl w15).drew).trans hW).heap hD15)
    go_simp) ?_
  simp only [List.setIfInBounds_toArray, List.set_cons_zero, List.set_cons_succ]
  refine wpX_cg 22 21 #[.agg #[.int .i64 c.kind, .int .i64 c.thread, .int .i64 c.addr, .int .i64 c.n, .slice D5 c.words.length d5], .agg #[.int .i64 d.kind, .int .i64 d.thread, .int .i64 d.addr, .int .i64 d.n, .slice D6 d.words.length d6]] rfl rfl (by kernel_rfl) rfl (by rfl) (fun W => by go_simp) ?_
  intro W16 hW16
  have hX16 := ((Ext.refl w15).drew).trans hW16
  refine (SameCommand_any _ _ c d W16 ⟨_, rfl, I5.out.ext (hE15.trans hX16)⟩ ⟨_, rfl, I6.out.ext (hE15.trans hX16)⟩ (by omega) (by omega)).mono ?_
  rintro e w16 ⟨f16, rfl, hf16, he16⟩
  obtain rfl := same_bool hf16 HCD.out
  refine ⟨_, rfl, he16, ?_⟩
  simp only [List.setIfInBounds_toArray, List.set_cons_zero, List.set_cons_succ]
  have hX16' := hX16.trans he16
  refine wpX_v 23 (.bool false) rfl rfl (by kernel_rfl) (by kernel_rfl) (by kernel_rfl) (fun _ _ _ _ h => h) (by kernel_rfl) rfl (by rfl) (fun W' hW => by
    skip
    go_simp) ?_
  simp only [List.setIfInBounds_toArray, List.set_cons_zero, List.set_cons_succ]
  refine wpX_v 24 (.bool false) rfl rfl (by kernel_rfl) (by kernel_rfl) (by kernel_rfl) (fun _ _ _ _ h => h) (by kernel_rfl) rfl (by rfl) (fun W' hW => by
    skip
    go_simp) ?_
  simp only [List.setIfInBounds_toArray, List.set_cons_zero, List.set_cons_succ]
  refine wpX_v 25 (.bool false) rfl rfl (by kernel_rfl) (by kernel_rfl) (by kernel_rfl) (fun _ _ _ _ h => h) (by kernel_rfl) rfl (by rfl) (fun W' hW => by
    skip
    go_simp) ?_
  simp only [List.setIfInBounds_toArray, List.set_cons_zero, List.set_cons_succ]
  refine wpX_v 26 (.slice Y13 er.length y13c) rfl rfl (by kernel_rfl) (by kernel_rfl) (by kernel_rfl) (fun _ _ _ _ h => h) (by kernel_rfl) rfl (by rfl) (fun W' hW => by
    skip
    go_simp) ?_
  simp only [List.setIfInBounds_toArray, List.set_cons_zero, List.set_cons_succ]
  refine wpX_v 27 (.string ⟨er.toArray⟩) rfl rfl (by kernel_rfl) (by kernel_rfl) (by kernel_rfl) (fun _ _ _ _ h => h) (by kernel_rfl) rfl (by rfl) (fun W' hW => by
    have ss := strB ((ho13f.ext (hX16'.trans hW)).inV)
    go_simp) ?_
  simp only [List.setIfInBounds_toArray, List.set_cons_zero, List.set_cons_succ]
  refine wpX_v 28 (.slice Y15 es.length y15c) rfl rfl (by kernel_rfl) (by kernel_rfl) (by kernel_rfl) (fun _ _ _ _ h => h) (by kernel_rfl) rfl (by rfl) (fun W' hW => by
    skip
    go_simp) ?_
  simp only [List.setIfInBounds_toArray, List.set_cons_zero, List.set_cons_succ]
  refine wpX_v 29 (.string ⟨es.toArray⟩) rfl rfl (by kernel_rfl) (by kernel_rfl) (by kernel_rfl) (fun _ _ _ _ h => h) (by kernel_rfl) rfl (by rfl) (fun W' hW => by
    have ss := strB ((ho15f.ext (hX16'.trans hW)).inV)
    go_simp) ?_
  simp only [List.setIfInBounds_toArray, List.set_cons_zero, List.set_cons_succ]
  refine wpX_v 30 (.bool (er == es)) rfl rfl (by kernel_rfl) (by kernel_rfl) (by kernel_rfl) (fun _ _ _ _ h => h) (by kernel_rfl) rfl (by rfl) (fun W' hW => by
    skip
    go_simp) ?_
  simp only [List.setIfInBounds_toArray, List.set_cons_zero, List.set_cons_succ]
  refine wpX_v 31 (.agg #[.int .i64 r.err, (.slice A7 m1 a7), (.slice T7 m7 u7), (.slice O7 m3 o7), .int .i64 r.s0, .int .i64 r.s1, .int .i64 r.s2, .int .i64 r.s3, .int .i64 r.s4, .int .i64 r.s5, .int .i64 r.s6]) rfl rfl (by kernel_rfl) (by kernel_rfl) (by kernel_rfl) (fun _ _ _ _ h => h) (by kernel_rfl) rfl (by rfl) (fun W' hW => by
    obtain ⟨q0, q1, q2, q3, q4, q5, q6, q7, q8, q9, q10⟩ := blk11 ((hX16'.trans hW).heap hR15)
    obtain ⟨p0, p1, p2, p3, p4, p5, p6, p7, p8, p9, p10⟩ := blk11 ((hX16'.trans hW).heap hS15)
    go_simp) ?_
  simp only [List.setIfInBounds_toArray, List.set_cons_zero, List.set_cons_succ]
  refine wpX_v 32 (.agg #[.int .i64 s.err, (.slice A8 m2 a8), (.slice T8 m8 u8), (.slice O8 m4 o8), .int .i64 s.s0, .int .i64 s.s1, .int .i64 s.s2, .int .i64 s.s3, .int .i64 s.s4, .int .i64 s.s5, .int .i64 s.s6]) rfl rfl (by kernel_rfl) (by kernel_rfl) (by kernel_rfl) (fun _ _ _ _ h => h) (by kernel_rfl) rfl (by rfl) (fun W' hW => by
    obtain ⟨q0, q1, q2, q3, q4, q5, q6, q7, q8, q9, q10⟩ := blk11 ((hX16'.trans hW).heap hR15)
    obtain ⟨p0, p1, p2, p3, p4, p5, p6, p7, p8, p9, p10⟩ := blk11 ((hX16'.trans hW).heap hS15)
    go_simp) ?_
  simp only [List.setIfInBounds_toArray, List.set_cons_zero, List.set_cons_succ]
  refine wpX_cg 33 35 #[.agg #[.int .i64 r.err, (.slice A7 m1 a7), (.slice T7 m7 u7), (.slice O7 m3 o7), .int .i64 r.s0, .int .i64 r.s1, .int .i64 r.s2, .int .i64 r.s3, .int .i64 r.s4, .int .i64 r.s5, .int .i64 r.s6], .agg #[.int .i64 s.err, (.slice A8 m2 a8), (.slice T8 m8 u8), (.slice O8 m4 o8), .int .i64 s.s0, .int .i64 s.s1, .int .i64 s.s2, .int .i64 s.s3, .int .i64 s.s4, .int .i64 s.s5, .int .i64 s.s6]] rfl rfl (by kernel_rfl) rfl (by rfl) (fun W => by go_simp) ?_
  intro W17 hW17
  have hX17 := hX16'.trans hW17
  refine (SameReply_any _ _ (r.cut m1 m3) (s.cut m2 m4) W17 (HRA.out _ hX17) (HSA.out _ hX17) HFR.out.mid HFS.out.mid).mono ?_
  rintro e w17 ⟨f17, rfl, hf17, he17⟩
  obtain rfl := same_bool hf17 HRS.out
  refine ⟨_, rfl, he17, ?_⟩
  simp only [List.setIfInBounds_toArray, List.set_cons_zero, List.set_cons_succ]
  have hX17' := hX17.trans he17
  refine wpX_v 34 (.bool false) rfl rfl (by kernel_rfl) (by kernel_rfl) (by kernel_rfl) (fun _ _ _ _ h => h) (by kernel_rfl) rfl (by rfl) (fun W' hW => by
    skip
    go_simp) ?_
  simp only [List.setIfInBounds_toArray, List.set_cons_zero, List.set_cons_succ]
  refine wpX_v 35 (.bool false) rfl rfl (by kernel_rfl) (by kernel_rfl) (by kernel_rfl) (fun _ _ _ _ h => h) (by kernel_rfl) rfl (by rfl) (fun W' hW => by
    skip
    go_simp) ?_
  simp only [List.setIfInBounds_toArray, List.set_cons_zero, List.set_cons_succ]
  refine wpX_end rfl fun W18 hW18 => tail_none (by kernel_rfl) ?_
  refine NoPanic.normal ?_
  have hE18 := (hE15.trans hX17').trans hW18
  clear hX17' hX17 hW18 hW17 hW16 hX16 hX16' he16 he17 hf16 hf17 HCD HRS HRA HSA ho3f ho5f ho13f ho15f hR15 hS15 hC15 hD15 hE15
  go_wp2_with fail
  refine (DecodeCommand_any _ b W18 (hb.ext hE18) (by omega)).mono ?_
  rintro e w19 ⟨v19, c19, er19, rfl, hd19, ⟨y19, rfl, ho19⟩, he19⟩
  obtain ⟨Y19, z19, rfl, _, _⟩ := ho19.inV
  have HD19 := Lib.hid hd19
  clear hd19
  have hE19 := hE18.trans he19
  go_upto_if 151 with fail
  have hb20 := heap_alloc_new w19 (.cells #[.int .i64 c19.kind, .int .i64 c19.thread, .int .i64 c19.addr, .int .i64 c19.n, .slice Y19 c19.words.length z19] 28)
  have hX20 := (Ext.refl w19).alloc (.cells #[.int .i64 c19.kind, .int .i64 c19.thread, .int .i64 c19.addr, .int .i64 c19.n, .slice Y19 c19.words.length z19] 28)
  have hE20 := hE19.trans hX20
  have hA20 : CmdAt (w19.alloc (.cells #[.int .i64 c19.kind, .int .i64 c19.thread, .int .i64 c19.addr, .int .i64 c19.n, .slice Y19 c19.words.length z19] 28)) (.agg #[.int .i64 c19.kind, .int .i64 c19.thread, .int .i64 c19.addr, .int .i64 c19.n, .slice Y19 c19.words.length z19]) c19 := ⟨_, rfl, ho19.inV.ext hX20⟩
  clear hX20 hE19 he19 ho19 hE18
  generalize w19.alloc (.cells #[.int .i64 c19.kind, .int .i64 c19.thread, .int .i64 c19.addr, .int .i64 c19.n, .slice Y19 c19.words.length z19] 28) = w20 at *
  generalize w19.heap.size = g20 at *
  go_cut [] from 152 to 165 (fun wx => Ext w wx)
  case first =>
    rcases HD19.out with ⟨rfl, hen⟩ | ⟨rfl, _, _⟩
    · have HEN := Lib.hid hen
      clear hen HD19
      obtain ⟨c0, c1, c2, c3, c4⟩ := blk5 hb20
      go_wp2_with fail
      refine (EncodeCommand_any _ c19 w20 hA20 HEN.out.ok (by have := HEN.out.len; omega)).mono ?_
      rintro e w21 ⟨y21, er21, rfl, hc21, he21⟩
      obtain ⟨_, rfl, ho21⟩ | ⟨hc21, _, _⟩ := hc21
      rotate_left
      · have := HEN.out.len; omega
      rw [HEN.out.eq] at ho21
      have hs1 := strB ho21.inV
      have hs2 := strB (hb.ext (hE20.trans he21))
      obtain ⟨Y21, y21c, rfl, _, _⟩ := ho21.inV
      have neq : (b != b) = false := by simp
      clear c0 c1 c2 c3 c4
      go_wp2_with fail
      go_meet
      exact hE20.trans he21
    · go_wp2_with fail
      go_meet
      exact hE20
  case rest =>
    clear hb20 hE20 hA20 HD19
    have hE22 : Ext w wc := hcut
    clear hcut
    go_wp2_with fail
    refine (DecodeReply_any _ b wc (hb.ext hE22) (by omega)).mono ?_
    rintro e w23 ⟨v23, r23, er23, rfl, hd23, ⟨zw, zt, zo, rfl, i23⟩, he23⟩
    obtain ⟨Zw, zwc, Zt, ztc, Zo, zoc, rfl, rfl, rfl⟩ := i23.forms
    have HD23 := Lib.hid hd23
    clear hd23
    have hE23 := hE22.trans he23
    go_upto_if 172 with fail
    have hb24 := heap_alloc_new w23 (.cells #[.int .i64 r23.err, .slice Zw r23.words.length zwc, .slice Zt r23.threads.length ztc, .slice Zo r23.output.length zoc, .int .i64 r23.s0, .int .i64 r23.s1, .int .i64 r23.s2, .int .i64 r23.s3, .int .i64 r23.s4, .int .i64 r23.s5, .int .i64 r23.s6] 58)
    have hX24 := (Ext.refl w23).alloc (.cells #[.int .i64 r23.err, .slice Zw r23.words.length zwc, .slice Zt r23.threads.length ztc, .slice Zo r23.output.length zoc, .int .i64 r23.s0, .int .i64 r23.s1, .int .i64 r23.s2, .int .i64 r23.s3, .int .i64 r23.s4, .int .i64 r23.s5, .int .i64 r23.s6] 58)
    have hE24 := hE23.trans hX24
    have hA24 : RepAt (w23.alloc (.cells #[.int .i64 r23.err, .slice Zw r23.words.length zwc, .slice Zt r23.threads.length ztc, .slice Zo r23.output.length zoc, .int .i64 r23.s0, .int .i64 r23.s1, .int .i64 r23.s2, .int .i64 r23.s3, .int .i64 r23.s4, .int .i64 r23.s5, .int .i64 r23.s6] 58)) (.agg #[.int .i64 r23.err, .slice Zw r23.words.length zwc, .slice Zt r23.threads.length ztc, .slice Zo r23.output.length zoc, .int .i64 r23.s0, .int .i64 r23.s1, .int .i64 r23.s2, .int .i64 r23.s3, .int .i64 r23.s4, .int .i64 r23.s5, .int .i64 r23.s6]) r23 := ⟨_, _, _, rfl, i23.ext hX24⟩
    clear hX24 hE23 he23 i23 hE22
    generalize w23.alloc (.cells #[.int .i64 r23.err, .slice Zw r23.words.length zwc, .slice Zt r23.threads.length ztc, .slice Zo r23.output.length zoc, .int .i64 r23.s0, .int .i64 r23.s1, .int .i64 r23.s2, .int .i64 r23.s3, .int .i64 r23.s4, .int .i64 r23.s5, .int .i64 r23.s6] 58) = w24 at *
    generalize w23.heap.size = g24 at *
    rcases HD23.out with ⟨rfl, hen⟩ | ⟨rfl, _, _⟩
    · have HEN := Lib.hid hen
      clear hen HD23
      obtain ⟨q0, q1, q2, q3, q4, q5, q6, q7, q8, q9, q10⟩ := blk11 hb24
      go_wp2_with fail
      refine (EncodeReply_any _ r23 w24 hA24 HEN.out.ok).mono ?_
      rintro e w25 ⟨y25, er25, rfl, hc25, he25⟩
      obtain ⟨_, rfl, ho25⟩ | ⟨hc25, _, _⟩ := hc25
      rotate_left
      · exact absurd HEN.out.fits hc25
      rw [HEN.out.eq] at ho25
      have hs1 := strB ho25.inV
      have hs2 := strB (hb.ext (hE24.trans he25))
      obtain ⟨Y25, y25c, rfl, _, _⟩ := ho25.inV
      have neq : (b != b) = false := by simp
      have hE25 := hE24.trans he25
      clear q0 q1 q2 q3 q4 q5 q6 q7 q8 q9 q10
      go_wp2_with fail
      refine (awake36_any w25).mono ?_
      rintro e wz ⟨rfl, hez⟩
      go_wp2_with fail
      go_ret
      exact ⟨rfl, hE25.trans hez⟩
    · go_wp2_with fail
      refine (awake36_any w24).mono ?_
      rintro e wz ⟨rfl, hez⟩
      go_wp2_with fail
      go_ret
      exact ⟨rfl, hE24.trans hez⟩
end Go.Proofs.Ytoeibcpjmoekpaa
