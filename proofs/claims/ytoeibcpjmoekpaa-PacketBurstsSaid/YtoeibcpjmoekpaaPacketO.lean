/- PacketOne, walked. -/
import Derived.Test.YtoeibcpjmoekpaaPacketL
import Derived.Test.YtoeibcpjmoekpaaPacketJ
import Derived.Test.YtoeibcpjmoekpaaRegion3
namespace Go.Proofs.Ytoeibcpjmoekpaa
open Go.RowKit
set_option linter.unusedVariables false

theorem near_right (p : Pkt) (h : p.body.length ≤ 6000) : rightP (nearP p 11) := by
  have e : nearP p 11 = p1P p := by
    unfold nearP swP
    rw [if_neg (by decide), if_neg (by decide), if_neg (by decide), if_neg (by decide)]
  rw [e]
  have m1 := Int.emod_nonneg p.kind (show (3 : Int) ≠ 0 by omega)
  have m1' := Int.emod_lt_of_pos p.kind (show (0 : Int) < 3 by omega)
  have m2 := Int.emod_nonneg p.src (show (1073741824 : Int) ≠ 0 by omega)
  have m2' := Int.emod_lt_of_pos p.src (show (0 : Int) < 1073741824 by omega)
  have m3 := Int.emod_nonneg p.seq (show (1073741824 : Int) ≠ 0 by omega)
  have m3' := Int.emod_lt_of_pos p.seq (show (0 : Int) < 1073741824 by omega)
  have m4 := Int.emod_nonneg p.dst (show (1073741824 : Int) ≠ 0 by omega)
  have m4' := Int.emod_lt_of_pos p.dst (show (0 : Int) < 1073741824 by omega)
  have m5 := Int.emod_nonneg p.ack (show (1073741824 : Int) ≠ 0 by omega)
  have m5' := Int.emod_lt_of_pos p.ack (show (0 : Int) < 1073741824 by omega)
  unfold p1P
  split
  · rename_i hk
    refine ⟨by simp only [badP, not_or]; omega, four_ok ⟨by show 0 ≤ 1 + p.src % 1073741824; omega, by show 1 + p.src % 1073741824 ≤ _; omega⟩ ⟨m4, by show p.dst % 1073741824 ≤ _; omega⟩ ⟨by show 0 ≤ 1 + p.seq % 1073741824; omega, by show 1 + p.seq % 1073741824 ≤ _; omega⟩ ⟨m5, by show p.ack % 1073741824 ≤ _; omega⟩, fun _ => by show 1 ≤ 1 + p.seq % 1073741824; omega, fun h2 => absurd hk h2⟩
  · rename_i hk
    refine ⟨by simp only [badP, not_or, List.length_nil]; omega, four_ok ⟨by show 0 ≤ 1 + p.src % 1073741824; omega, by show 1 + p.src % 1073741824 ≤ _; omega⟩ ⟨m4, by show p.dst % 1073741824 ≤ _; omega⟩ ⟨Int.le_refl 0, by show (0 : Int) ≤ 1073741824; omega⟩ ⟨m5, by show p.ack % 1073741824 ≤ _; omega⟩, fun h2 => absurd h2 hk, fun _ => ⟨rfl, rfl⟩⟩
theorem enc_inj {p q : Pkt} (h : rightP p) (k : rightP q) : encP p = encP q ↔ p = q := by
  refine ⟨fun e => ?_, fun e => by rw [e]⟩
  have hs : DecIs (encP p) q 0 := by
    have hl := enc_len k
    obtain ⟨ho, hk⟩ := own_ok k
    rw [e]
    exact .inr (.inr ⟨hl.2, by omega, enc_crc q, .inl ⟨by rw [enc_cut]; exact ho, by rw [enc_cut, hk]; exact k, by rw [enc_cut, hk], rfl⟩⟩)
  exact (dec_own h hs).1.symm
/-- what is decoded without an error has this datagram -/
theorem dec_good {b : List UInt8} {p : Pkt} {er : Int} (h : DecIs b p er) (h0 : er = 0) : rightP p ∧ encP p = b ∧ p.body.length ≤ 6060 := by
  subst h0
  rcases h with ⟨_, _, h⟩ | ⟨_, _, _, h⟩ | ⟨a1, a2, a3, ⟨a4, a5, rfl, _⟩ | ⟨_, _, h⟩⟩
  · cases h
  · cases h
  · refine ⟨a5, dec_enc a2 a3 a4, ?_⟩
    have := a5.1
    simp only [badP, not_or] at this
    omega
  · cases h
/-- the boxes of two packets -/
structure PQ (w W : World) (k1 k2 : Array Value) : Prop where
  one : W.heap[w.heap.size]? = some (.cells k1 39 (0, 0))
  two : W.heap[w.heap.size + 1]? = some (.cells k2 39 (0, 0))
  ext : Ext w W
theorem PQ.grow {w W W' : World} {k1 k2 : Array Value} (h : PQ w W k1 k2) (he : Ext W W') : PQ w W' k1 k2 := ⟨he.heap h.one, he.heap h.two, h.ext.trans he⟩
theorem pq_new (w : World) (k1 k2 : Array Value) : ∃ W, W = (w.alloc (.cells k1 39)).alloc (.cells k2 39) ∧ PQ w W k1 k2 := by
  refine ⟨_, rfl, blk_alloc (heap_alloc_new w _) _, ?_, ((Ext.refl w).alloc _).alloc _⟩
  have := heap_alloc_new (w.alloc (.cells k1 39)) (.cells k2 39)
  simpa using this
theorem PQ.put1 {w W : World} {k2 : Array Value} {a0 a1 a2 a3 a4 a5 b0 b1 b2 b3 b4 b5 : Value} (h : PQ w W #[a0, a1, a2, a3, a4, a5] k2) :
    PQ w ((((((W.setCell ⟨w.heap.size, 0, none⟩ b0).setCell ⟨w.heap.size, 1, none⟩ b1).setCell ⟨w.heap.size, 2, none⟩ b2).setCell ⟨w.heap.size, 3, none⟩ b3).setCell ⟨w.heap.size, 4, none⟩ b4).setCell ⟨w.heap.size, 5, none⟩ b5) #[b0, b1, b2, b3, b4, b5] k2 := by
  have ne : w.heap.size + 1 ≠ w.heap.size := by omega
  refine ⟨?_, blk_far (blk_far (blk_far (blk_far (blk_far (blk_far h.two ne _) ne _) ne _) ne _) ne _) ne _, (((((h.ext.setCell (p := ⟨w.heap.size, 0, none⟩) (Nat.le_refl _) _).setCell (p := ⟨w.heap.size, 1, none⟩) (Nat.le_refl _) _).setCell (p := ⟨w.heap.size, 2, none⟩) (Nat.le_refl _) _).setCell (p := ⟨w.heap.size, 3, none⟩) (Nat.le_refl _) _).setCell (p := ⟨w.heap.size, 4, none⟩) (Nat.le_refl _) _).setCell (p := ⟨w.heap.size, 5, none⟩) (Nat.le_refl _) _⟩
  have := blk_set (blk_set (blk_set (blk_set (blk_set (blk_set h.one 0 b0) 1 b1) 2 b2) 3 b3) 4 b4) 5 b5
  simpa using this
theorem PQ.put2 {w W : World} {k1 : Array Value} {a0 a1 a2 a3 a4 a5 b0 b1 b2 b3 b4 b5 : Value} (h : PQ w W k1 #[a0, a1, a2, a3, a4, a5]) :
    PQ w ((((((W.setCell ⟨w.heap.size + 1, 0, none⟩ b0).setCell ⟨w.heap.size + 1, 1, none⟩ b1).setCell ⟨w.heap.size + 1, 2, none⟩ b2).setCell ⟨w.heap.size + 1, 3, none⟩ b3).setCell ⟨w.heap.size + 1, 4, none⟩ b4).setCell ⟨w.heap.size + 1, 5, none⟩ b5) k1 #[b0, b1, b2, b3, b4, b5] := by
  have ne : w.heap.size ≠ w.heap.size + 1 := by omega
  refine ⟨blk_far (blk_far (blk_far (blk_far (blk_far (blk_far h.one ne _) ne _) ne _) ne _) ne _) ne _, ?_, (((((h.ext.setCell (p := ⟨w.heap.size + 1, 0, none⟩) (Nat.le_succ _) _).setCell (p := ⟨w.heap.size + 1, 1, none⟩) (Nat.le_succ _) _).setCell (p := ⟨w.heap.size + 1, 2, none⟩) (Nat.le_succ _) _).setCell (p := ⟨w.heap.size + 1, 3, none⟩) (Nat.le_succ _) _).setCell (p := ⟨w.heap.size + 1, 4, none⟩) (Nat.le_succ _) _).setCell (p := ⟨w.heap.size + 1, 5, none⟩) (Nat.le_succ _) _⟩
  have := blk_set (blk_set (blk_set (blk_set (blk_set (blk_set h.two 0 b0) 1 b1) 2 b2) 3 b3) 4 b4) 5 b5
  simpa using this

set_option maxHeartbeats 4000000 in
set_option maxRecDepth 100000 in
theorem one_walk (u v z : Value) (p q : Pkt) (raw : List UInt8) (w : World) (hp : PktAt w u p) (hq : PktAt w v q) (hz : InB w z raw) (hlp : p.body.length ≤ 9223372036854775807) (hlq : q.body.length ≤ 9223372036854775807) (hlr : raw.length ≤ 9223372036854775807) :
    Calls Try.prog 8 #[u, v, z] w fun e w' => e = .returned (.bool true) ∧ Ext w w' := by
  have hP := hp
  have hQ := hq
  have hZ := hz
  obtain ⟨y, rfl, ⟨A, c, rfl, _, _⟩⟩ := hp
  obtain ⟨y', rfl, ⟨B, d, rfl, _, _⟩⟩ := hq
  obtain ⟨C, f, rfl, _, _⟩ := hz
  go_enter Try.func8, Try.ntmps8
  go_upto_region 1 with fail
  obtain ⟨W, hW, hB⟩ := pq_new w #[.int .i64 p.kind, .int .i64 p.src, .int .i64 p.dst, .int .i64 p.seq, .int .i64 p.ack, .slice A p.body.length c] #[.int .i64 q.kind, .int .i64 q.src, .int .i64 q.dst, .int .i64 q.seq, .int .i64 q.ack, .slice B q.body.length d]
  rw [← hW]
  clear hW
  obtain ⟨q0, q1, q2, q3, q4, q5⟩ := blk6 hB.one
  obtain ⟨r0, r1, r2, r3, r4, r5⟩ := blk6 hB.two
  go_cut [31] (fun s wx => s = .bool (decide (300 < p.body.length ∨ 300 < q.body.length ∨ 500 < raw.length)) ∧ W = wx)
  case first =>
    by_cases e1 : 300 < p.body.length
    · have t1 : decide ((300 : Int) < (p.body.length : Int)) = true := by first | (simpa using e1) | (simp; omega)
      go_wp2_with fail
      go_meet
      exact ⟨by rw [decide_eq_true (by omega)], rfl⟩
    · have t1 : decide ((300 : Int) < (p.body.length : Int)) = false := by first | (simpa using e1) | (simp; omega)
      by_cases e2 : 300 < q.body.length
      · have t2 : decide ((300 : Int) < (q.body.length : Int)) = true := by first | (simpa using e2) | (simp; omega)
        go_wp2_with fail
        go_meet
        exact ⟨by rw [decide_eq_true (by omega)], rfl⟩
      · have t2 : decide ((300 : Int) < (q.body.length : Int)) = false := by first | (simpa using e2) | (simp; omega)
        by_cases e3 : 500 < raw.length
        · have t3 : decide ((500 : Int) < (raw.length : Int)) = true := by first | (simpa using e3) | (simp; omega)
          go_wp2_with fail
          go_meet
          exact ⟨by rw [decide_eq_true (by omega)], rfl⟩
        · have t3 : decide ((500 : Int) < (raw.length : Int)) = false := by first | (simpa using e3) | (simp; omega)
          go_wp2_with fail
          go_meet
          exact ⟨by rw [decide_eq_false (by omega)], rfl⟩
  case rest =>
    obtain ⟨rfl, rfl⟩ := hcut
    by_cases hbad : 300 < p.body.length ∨ 300 < q.body.length ∨ 500 < raw.length
    · rw [decide_eq_true hbad]
      have hE := hB.ext
      clear hbad hB q0 q1 q2 q3 q4 q5 r0 r1 r2 r3 r4 r5
      go_wp2_with fail
      refine (awake33_any W).mono ?_
      rintro e w9 ⟨rfl, he9⟩
      go_wp2
      go_ret
      exact ⟨rfl, hE.trans he9⟩
    · rw [decide_eq_false hbad]
      have g1 : p.body.length ≤ 300 := by omega
      have g2 : q.body.length ≤ 300 := by omega
      have g3 : raw.length ≤ 500 := by omega
      have R1 := Lib.hid (near_right p (by omega))
      have R2 := Lib.hid (near_right q (by omega))
      clear hbad q0 q1 q2 q3 q4 q5 r0 r1 r2 r3 r4 r5 hlp hlq hlr
      go_wp2_with fail
      refine wp_region_X #[true, true, true, true, false, false] 4 2 (by kernel_rfl) rfl ?_
      refine wpX_vt 0 (.agg #[.int .i64 p.kind, .int .i64 p.src, .int .i64 p.dst, .int .i64 p.seq, .int .i64 p.ack, .slice A p.body.length c]) rfl rfl (by kernel_rfl) (by kernel_rfl) (by kernel_rfl) (fun _ _ _ _ h => h) (by kernel_rfl) rfl (by rfl) (fun W' hW => by
        obtain ⟨q0, q1, q2, q3, q4, q5⟩ := blk6 ((((Ext.refl W).drew).trans hW).heap hB.one)
        go_simp) ?_
      simp only [List.setIfInBounds_toArray, List.set_cons_zero, List.set_cons_succ]
      refine wpX_vt 2 (.agg #[.int .i64 q.kind, .int .i64 q.src, .int .i64 q.dst, .int .i64 q.seq, .int .i64 q.ack, .slice B q.body.length d]) rfl rfl (by kernel_rfl) (by kernel_rfl) (by kernel_rfl) (fun _ _ _ _ h => h) (by kernel_rfl) rfl (by rfl) (fun W' hW => by
        obtain ⟨q0, q1, q2, q3, q4, q5⟩ := blk6 ((((Ext.refl W).drew).trans hW).heap hB.two)
        go_simp) ?_
      simp only [List.setIfInBounds_toArray, List.set_cons_zero, List.set_cons_succ]
      refine wpX_c 1 22 #[.agg #[.int .i64 p.kind, .int .i64 p.src, .int .i64 p.dst, .int .i64 p.seq, .int .i64 p.ack, .slice A p.body.length c], .int .i64 11] rfl rfl (by kernel_rfl) rfl rfl (fun W => by go_simp) ?_
      intro W3 hW3
      refine (near_full _ p 11 W3 (hP.ext (hB.ext.trans (((Ext.refl W).drew).trans hW3)))).mono ?_
      rintro e w3 ⟨v3, rfl, _, hp3, he3⟩
      obtain ⟨y3, rfl, hy3⟩ := hp3 (by decide) w hP
      refine ⟨_, rfl, he3, ?_⟩
      simp only [List.setIfInBounds_toArray, List.set_cons_zero, List.set_cons_succ]
      refine wpX_c 3 22 #[.agg #[.int .i64 q.kind, .int .i64 q.src, .int .i64 q.dst, .int .i64 q.seq, .int .i64 q.ack, .slice B q.body.length d], .int .i64 11] rfl rfl (by kernel_rfl) rfl rfl (fun W => by go_simp) ?_
      intro W5 hW5
      refine (near_full _ q 11 W5 (hQ.ext (hB.ext.trans (((((Ext.refl W).drew).trans hW3).trans he3).trans hW5)))).mono ?_
      rintro e w5 ⟨v5, rfl, _, hp5, he5⟩
      obtain ⟨y5, rfl, hy5⟩ := hp5 (by decide) w hQ
      refine ⟨_, rfl, he5, ?_⟩
      simp only [List.setIfInBounds_toArray, List.set_cons_zero, List.set_cons_succ]
      have hB5 := hB.grow (((((((Ext.refl W).drew).trans hW3).trans he3).trans hW5)).trans he5)
      clear hW3 he3 hW5 he5 hB
      generalize nearP p 11 = p1 at *
      generalize nearP q 11 = p2 at *
      obtain ⟨Y1, c1, rfl, _, _⟩ := id hy3
      obtain ⟨Y2, c2, rfl, _, _⟩ := id hy5
      refine wpX_end rfl fun W7 hE7 => ?_
      refine tail_seq 4 rfl (by kernel_rfl) ?_
      simp only [List.drop_succ_cons, List.drop_zero]
      have hB7 := hB5.grow hE7
      clear hE7 hB5
      obtain ⟨q0, q1, q2, q3, q4, q5⟩ := blk6 hB7.one
      obtain ⟨r0, r1, r2, r3, r4, r5⟩ := blk6 hB7.two
      obtain ⟨f0, f1, f2, f3, f4, f5⟩ := blk6f hB7.one
      obtain ⟨e0, e1, e2, e3, e4, e5⟩ := blk6f hB7.two
      go_wp2_with fail
      refine NoPanic.normal ?_
      have hB8 := (hB7.put1 (b0 := .int .i64 p1.kind) (b1 := .int .i64 p1.src) (b2 := .int .i64 p1.dst) (b3 := .int .i64 p1.seq) (b4 := .int .i64 p1.ack) (b5 := .slice Y1 p1.body.length c1)).put2 (b0 := .int .i64 p2.kind) (b1 := .int .i64 p2.src) (b2 := .int .i64 p2.dst) (b3 := .int .i64 p2.seq) (b4 := .int .i64 p2.ack) (b5 := .slice Y2 p2.body.length c2)
      clear q0 q1 q2 q3 q4 q5 r0 r1 r2 r3 r4 r5 f0 f1 f2 f3 f4 f5 e0 e1 e2 e3 e4 e5 hB7
      generalize ((((((((((((W7.setCell ⟨w.heap.size, 0, none⟩ (.int .i64 p1.kind)).setCell ⟨w.heap.size, 1, none⟩ (.int .i64 p1.src)).setCell ⟨w.heap.size, 2, none⟩ (.int .i64 p1.dst)).setCell ⟨w.heap.size, 3, none⟩ (.int .i64 p1.seq)).setCell ⟨w.heap.size, 4, none⟩ (.int .i64 p1.ack)).setCell ⟨w.heap.size, 5, none⟩ (.slice Y1 p1.body.length c1)).setCell ⟨w.heap.size + 1, 0, none⟩ (.int .i64 p2.kind)).setCell ⟨w.heap.size + 1, 1, none⟩ (.int .i64 p2.src)).setCell ⟨w.heap.size + 1, 2, none⟩ (.int .i64 p2.dst)).setCell ⟨w.heap.size + 1, 3, none⟩ (.int .i64 p2.seq)).setCell ⟨w.heap.size + 1, 4, none⟩ (.int .i64 p2.ack)).setCell ⟨w.heap.size + 1, 5, none⟩ (.slice Y2 p2.body.length c2)) = w8 at *
      have PA : PktAt w8 (.agg #[.int .i64 p1.kind, .int .i64 p1.src, .int .i64 p1.dst, .int .i64 p1.seq, .int .i64 p1.ack, .slice Y1 p1.body.length c1]) p1 := ⟨_, rfl, hy3.ext hB8.ext⟩
      have PB_ : PktAt w8 (.agg #[.int .i64 p2.kind, .int .i64 p2.src, .int .i64 p2.dst, .int .i64 p2.seq, .int .i64 p2.ack, .slice Y2 p2.body.length c2]) p2 := ⟨_, rfl, hy5.ext hB8.ext⟩
      have bl1 : p1.body.length ≤ 6000 := by have := R1.out.1; simp only [badP, not_or] at this; omega
      have bl2 : p2.body.length ≤ 6000 := by have := R2.out.1; simp only [badP, not_or] at this; omega
      obtain ⟨q0, q1, q2, q3, q4, q5⟩ := blk6 hB8.one
      go_wp2_with fail
      refine (Encode_any _ p1 w8 PA (by omega)).mono ?_
      rintro e w9 ⟨y9, er9, rfl, hc9, he9⟩
      obtain ⟨rfl, ho9⟩ : er9 = 0 ∧ OwnV bv 5 w8.heap.size w9 y9 (encP p1) := by
        rcases hc9 with ⟨_, h1, h2⟩ | ⟨hR', _, _⟩
        · exact ⟨h1, h2⟩
        · exact absurd R1.out hR'
      clear q0 q1 q2 q3 q4 q5
      have hB9 := hB8.grow he9
      obtain ⟨Y9, c9, rfl, _, _⟩ := ho9.inV
      obtain ⟨r0, r1, r2, r3, r4, r5⟩ := blk6 hB9.two
      go_wp2_with fail
      refine (Encode_any _ p2 w9 (PB_.ext he9) (by omega)).mono ?_
      rintro e w10 ⟨y10, er10, rfl, hc10, he10⟩
      obtain ⟨rfl, ho10⟩ : er10 = 0 ∧ OwnV bv 5 w9.heap.size w10 y10 (encP p2) := by
        rcases hc10 with ⟨_, h1, h2⟩ | ⟨hR', _, _⟩
        · exact ⟨h1, h2⟩
        · exact absurd R2.out hR'
      clear r0 r1 r2 r3 r4 r5
      have hB10 := hB9.grow he10
      replace PA := PA.ext (he9.trans he10)
      replace PB_ := PB_.ext (he9.trans he10)
      have ia : InB w10 (.slice Y9 (encP p1).length c9) (encP p1) := ho9.inV.ext he10
      have ib := ho10.inV
      obtain ⟨Y10, c10, rfl, _, _⟩ := id ib
      have HINJ := Lib.hid (enc_inj R1.out R2.out)
      clear ho9 ho10 hB8 hB9 he9 he10
      generalize encP p1 = en1 at *
      generalize encP p2 = en2 at *
      go_wp2_with fail
      refine wp_region_X #[true, true, true, true, true, true, true, true, true, true, true, true, true, true, true, true, true] 17 0 (by kernel_rfl) rfl ?_
      refine wpX_v 0 (.int .i64 0) rfl rfl (by kernel_rfl) (by kernel_rfl) (by kernel_rfl) (fun _ _ _ _ h => h) (by kernel_rfl) rfl (by rfl) (fun W hW => by
        obtain ⟨q0, q1, q2, q3, q4, q5⟩ := blk6 ((((Ext.refl w10).drew).trans hW).heap hB10.one)
        obtain ⟨r0, r1, r2, r3, r4, r5⟩ := blk6 ((((Ext.refl w10).drew).trans hW).heap hB10.two)
        have hs1 := strB (ia.ext (((Ext.refl w10).drew).trans hW))
        have hs2 := strB (ib.ext (((Ext.refl w10).drew).trans hW))
        go_simp) ?_
      simp only [List.setIfInBounds_toArray, List.set_cons_zero, List.set_cons_succ]
      refine wpX_v 1 (.bool false) rfl rfl (by kernel_rfl) (by kernel_rfl) (by kernel_rfl) (fun _ _ _ _ h => h) (by kernel_rfl) rfl (by rfl) (fun W hW => by
        obtain ⟨q0, q1, q2, q3, q4, q5⟩ := blk6 ((((Ext.refl w10).drew).trans hW).heap hB10.one)
        obtain ⟨r0, r1, r2, r3, r4, r5⟩ := blk6 ((((Ext.refl w10).drew).trans hW).heap hB10.two)
        have hs1 := strB (ia.ext (((Ext.refl w10).drew).trans hW))
        have hs2 := strB (ib.ext (((Ext.refl w10).drew).trans hW))
        go_simp) ?_
      simp only [List.setIfInBounds_toArray, List.set_cons_zero, List.set_cons_succ]
      refine wpX_v 2 (.bool false) rfl rfl (by kernel_rfl) (by kernel_rfl) (by kernel_rfl) (fun _ _ _ _ h => h) (by kernel_rfl) rfl (by rfl) (fun W hW => by
        obtain ⟨q0, q1, q2, q3, q4, q5⟩ := blk6 ((((Ext.refl w10).drew).trans hW).heap hB10.one)
        obtain ⟨r0, r1, r2, r3, r4, r5⟩ := blk6 ((((Ext.refl w10).drew).trans hW).heap hB10.two)
        have hs1 := strB (ia.ext (((Ext.refl w10).drew).trans hW))
        have hs2 := strB (ib.ext (((Ext.refl w10).drew).trans hW))
        go_simp) ?_
      simp only [List.setIfInBounds_toArray, List.set_cons_zero, List.set_cons_succ]
      refine wpX_v 3 (.int .i64 0) rfl rfl (by kernel_rfl) (by kernel_rfl) (by kernel_rfl) (fun _ _ _ _ h => h) (by kernel_rfl) rfl (by rfl) (fun W hW => by
        obtain ⟨q0, q1, q2, q3, q4, q5⟩ := blk6 ((((Ext.refl w10).drew).trans hW).heap hB10.one)
        obtain ⟨r0, r1, r2, r3, r4, r5⟩ := blk6 ((((Ext.refl w10).drew).trans hW).heap hB10.two)
        have hs1 := strB (ia.ext (((Ext.refl w10).drew).trans hW))
        have hs2 := strB (ib.ext (((Ext.refl w10).drew).trans hW))
        go_simp) ?_
      simp only [List.setIfInBounds_toArray, List.set_cons_zero, List.set_cons_succ]
      refine wpX_v 4 (.bool false) rfl rfl (by kernel_rfl) (by kernel_rfl) (by kernel_rfl) (fun _ _ _ _ h => h) (by kernel_rfl) rfl (by rfl) (fun W hW => by
        obtain ⟨q0, q1, q2, q3, q4, q5⟩ := blk6 ((((Ext.refl w10).drew).trans hW).heap hB10.one)
        obtain ⟨r0, r1, r2, r3, r4, r5⟩ := blk6 ((((Ext.refl w10).drew).trans hW).heap hB10.two)
        have hs1 := strB (ia.ext (((Ext.refl w10).drew).trans hW))
        have hs2 := strB (ib.ext (((Ext.refl w10).drew).trans hW))
        go_simp) ?_
      simp only [List.setIfInBounds_toArray, List.set_cons_zero, List.set_cons_succ]
      refine wpX_v 5 (.bool false) rfl rfl (by kernel_rfl) (by kernel_rfl) (by kernel_rfl) (fun _ _ _ _ h => h) (by kernel_rfl) rfl (by rfl) (fun W hW => by
        obtain ⟨q0, q1, q2, q3, q4, q5⟩ := blk6 ((((Ext.refl w10).drew).trans hW).heap hB10.one)
        obtain ⟨r0, r1, r2, r3, r4, r5⟩ := blk6 ((((Ext.refl w10).drew).trans hW).heap hB10.two)
        have hs1 := strB (ia.ext (((Ext.refl w10).drew).trans hW))
        have hs2 := strB (ib.ext (((Ext.refl w10).drew).trans hW))
        go_simp) ?_
      simp only [List.setIfInBounds_toArray, List.set_cons_zero, List.set_cons_succ]
      refine wpX_v 6 (.bool false) rfl rfl (by kernel_rfl) (by kernel_rfl) (by kernel_rfl) (fun _ _ _ _ h => h) (by kernel_rfl) rfl (by rfl) (fun W hW => by
        obtain ⟨q0, q1, q2, q3, q4, q5⟩ := blk6 ((((Ext.refl w10).drew).trans hW).heap hB10.one)
        obtain ⟨r0, r1, r2, r3, r4, r5⟩ := blk6 ((((Ext.refl w10).drew).trans hW).heap hB10.two)
        have hs1 := strB (ia.ext (((Ext.refl w10).drew).trans hW))
        have hs2 := strB (ib.ext (((Ext.refl w10).drew).trans hW))
        go_simp) ?_
      simp only [List.setIfInBounds_toArray, List.set_cons_zero, List.set_cons_succ]
      refine wpX_v 7 (.slice Y9 en1.length c9) rfl rfl (by kernel_rfl) (by kernel_rfl) (by kernel_rfl) (fun _ _ _ _ h => h) (by kernel_rfl) rfl (by rfl) (fun W hW => by
        obtain ⟨q0, q1, q2, q3, q4, q5⟩ := blk6 ((((Ext.refl w10).drew).trans hW).heap hB10.one)
        obtain ⟨r0, r1, r2, r3, r4, r5⟩ := blk6 ((((Ext.refl w10).drew).trans hW).heap hB10.two)
        have hs1 := strB (ia.ext (((Ext.refl w10).drew).trans hW))
        have hs2 := strB (ib.ext (((Ext.refl w10).drew).trans hW))
        go_simp) ?_
      simp only [List.setIfInBounds_toArray, List.set_cons_zero, List.set_cons_succ]
      refine wpX_v 8 (.string ⟨en1.toArray⟩) rfl rfl (by kernel_rfl) (by kernel_rfl) (by kernel_rfl) (fun _ _ _ _ h => h) (by kernel_rfl) rfl (by rfl) (fun W hW => by
        obtain ⟨q0, q1, q2, q3, q4, q5⟩ := blk6 ((((Ext.refl w10).drew).trans hW).heap hB10.one)
        obtain ⟨r0, r1, r2, r3, r4, r5⟩ := blk6 ((((Ext.refl w10).drew).trans hW).heap hB10.two)
        have hs1 := strB (ia.ext (((Ext.refl w10).drew).trans hW))
        have hs2 := strB (ib.ext (((Ext.refl w10).drew).trans hW))
        go_simp) ?_
      simp only [List.setIfInBounds_toArray, List.set_cons_zero, List.set_cons_succ]
      refine wpX_v 9 (.slice Y10 en2.length c10) rfl rfl (by kernel_rfl) (by kernel_rfl) (by kernel_rfl) (fun _ _ _ _ h => h) (by kernel_rfl) rfl (by rfl) (fun W hW => by
        obtain ⟨q0, q1, q2, q3, q4, q5⟩ := blk6 ((((Ext.refl w10).drew).trans hW).heap hB10.one)
        obtain ⟨r0, r1, r2, r3, r4, r5⟩ := blk6 ((((Ext.refl w10).drew).trans hW).heap hB10.two)
        have hs1 := strB (ia.ext (((Ext.refl w10).drew).trans hW))
        have hs2 := strB (ib.ext (((Ext.refl w10).drew).trans hW))
        go_simp) ?_
      simp only [List.setIfInBounds_toArray, List.set_cons_zero, List.set_cons_succ]
      refine wpX_v 10 (.string ⟨en2.toArray⟩) rfl rfl (by kernel_rfl) (by kernel_rfl) (by kernel_rfl) (fun _ _ _ _ h => h) (by kernel_rfl) rfl (by rfl) (fun W hW => by
        obtain ⟨q0, q1, q2, q3, q4, q5⟩ := blk6 ((((Ext.refl w10).drew).trans hW).heap hB10.one)
        obtain ⟨r0, r1, r2, r3, r4, r5⟩ := blk6 ((((Ext.refl w10).drew).trans hW).heap hB10.two)
        have hs1 := strB (ia.ext (((Ext.refl w10).drew).trans hW))
        have hs2 := strB (ib.ext (((Ext.refl w10).drew).trans hW))
        go_simp) ?_
      simp only [List.setIfInBounds_toArray, List.set_cons_zero, List.set_cons_succ]
      refine wpX_v 11 (.bool (en1 == en2)) rfl rfl (by kernel_rfl) (by kernel_rfl) (by kernel_rfl) (fun _ _ _ _ h => h) (by kernel_rfl) rfl (by rfl) (fun W hW => by
        obtain ⟨q0, q1, q2, q3, q4, q5⟩ := blk6 ((((Ext.refl w10).drew).trans hW).heap hB10.one)
        obtain ⟨r0, r1, r2, r3, r4, r5⟩ := blk6 ((((Ext.refl w10).drew).trans hW).heap hB10.two)
        have hs1 := strB (ia.ext (((Ext.refl w10).drew).trans hW))
        have hs2 := strB (ib.ext (((Ext.refl w10).drew).trans hW))
        go_simp) ?_
      simp only [List.setIfInBounds_toArray, List.set_cons_zero, List.set_cons_succ]
      refine wpX_v 12 (.agg #[.int .i64 p1.kind, .int .i64 p1.src, .int .i64 p1.dst, .int .i64 p1.seq, .int .i64 p1.ack, .slice Y1 p1.body.length c1]) rfl rfl (by kernel_rfl) (by kernel_rfl) (by kernel_rfl) (fun _ _ _ _ h => h) (by kernel_rfl) rfl (by rfl) (fun W hW => by
        obtain ⟨q0, q1, q2, q3, q4, q5⟩ := blk6 ((((Ext.refl w10).drew).trans hW).heap hB10.one)
        obtain ⟨r0, r1, r2, r3, r4, r5⟩ := blk6 ((((Ext.refl w10).drew).trans hW).heap hB10.two)
        have hs1 := strB (ia.ext (((Ext.refl w10).drew).trans hW))
        have hs2 := strB (ib.ext (((Ext.refl w10).drew).trans hW))
        go_simp) ?_
      simp only [List.setIfInBounds_toArray, List.set_cons_zero, List.set_cons_succ]
      refine wpX_v 13 (.agg #[.int .i64 p2.kind, .int .i64 p2.src, .int .i64 p2.dst, .int .i64 p2.seq, .int .i64 p2.ack, .slice Y2 p2.body.length c2]) rfl rfl (by kernel_rfl) (by kernel_rfl) (by kernel_rfl) (fun _ _ _ _ h => h) (by kernel_rfl) rfl (by rfl) (fun W hW => by
        obtain ⟨q0, q1, q2, q3, q4, q5⟩ := blk6 ((((Ext.refl w10).drew).trans hW).heap hB10.one)
        obtain ⟨r0, r1, r2, r3, r4, r5⟩ := blk6 ((((Ext.refl w10).drew).trans hW).heap hB10.two)
        have hs1 := strB (ia.ext (((Ext.refl w10).drew).trans hW))
        have hs2 := strB (ib.ext (((Ext.refl w10).drew).trans hW))
        go_simp) ?_
      simp only [List.setIfInBounds_toArray, List.set_cons_zero, List.set_cons_succ]
      refine wpX_cg 14 28 #[.agg #[.int .i64 p1.kind, .int .i64 p1.src, .int .i64 p1.dst, .int .i64 p1.seq, .int .i64 p1.ack, .slice Y1 p1.body.length c1], .agg #[.int .i64 p2.kind, .int .i64 p2.src, .int .i64 p2.dst, .int .i64 p2.seq, .int .i64 p2.ack, .slice Y2 p2.body.length c2]] rfl rfl (by kernel_rfl) rfl (by rfl) (fun W => by go_simp) ?_
      intro W12 hW12
      refine (Same_any _ _ p1 p2 W12 (PA.ext (((Ext.refl w10).drew).trans hW12)) (PB_.ext (((Ext.refl w10).drew).trans hW12))).mono ?_
      rintro e w12 ⟨r12, rfl, hr12, he12⟩
      refine ⟨_, rfl, he12, ?_⟩
      obtain rfl : r12 = (en1 == en2) := by
        have h2 := HINJ.out
        by_cases e : en1 = en2
        · rw [hr12.2 (h2.1 e)]; simp [e]
        · cases r12 with
          | false => simp [e]
          | true => exact absurd (h2.2 (hr12.1 rfl)) e
      have hE1012 : Ext w10 w12 := (((Ext.refl w10).drew).trans hW12).trans he12
      generalize hbb : (en1 == en2) = bb at *
      clear hbb hr12 hW12 he12
      have nb : (bb != bb) = false := by cases bb <;> rfl
      simp only [List.setIfInBounds_toArray, List.set_cons_zero, List.set_cons_succ]
      refine wpX_v 15 (.bool false) rfl rfl (by kernel_rfl) (by kernel_rfl) (by kernel_rfl) (fun _ _ _ _ h => h) (by kernel_rfl) rfl (by rfl) (fun W hW => by go_simp) ?_
      simp only [List.setIfInBounds_toArray, List.set_cons_zero, List.set_cons_succ]
      refine wpX_v 16 (.bool false) rfl rfl (by kernel_rfl) (by kernel_rfl) (by kernel_rfl) (fun _ _ _ _ h => h) (by kernel_rfl) rfl (by rfl) (fun W hW => by go_simp) ?_
      simp only [List.setIfInBounds_toArray, List.set_cons_zero, List.set_cons_succ]
      refine wpX_end rfl fun w14 hE14 => ?_
      refine tail_none (by kernel_rfl) ?_
      refine NoPanic.normal ?_
      have hEw := hB10.ext.trans (hE1012.trans hE14)
      clear hE1012 hE14 nb hB10 PA PB_ ia ib hy3 hy5 HINJ
      go_wp2_with fail
      refine (Sum_any _ raw w14 (hZ.ext hEw) (by omega)).mono ?_
      rintro e w15 ⟨rfl, rfl⟩
      have hcl := crcL_lt raw (r := 65535) (by omega)
      have hhi := hiB_val hcl
      have hlo := loB_val2 hcl
      have HSB : Hid (sumB raw = [hiB (crcL 65535 raw), loB (crcL 65535 raw)]) := Lib.hid rfl
      generalize crcL 65535 raw = cr at *
      generalize hiB cr = hb at *
      generalize loB cr = lb at *
      go_wp2_with (at_builtin; go_must (refine wpList_appendV elem_u8 (fun _ => rfl) rfl (.tmp 66) (.tmp 67) rfl w14.heap.size _ [] rfl (own_empty w14 _ rfl).toV _ raw rfl ((hZ.ext hEw).ext ((Ext.refl w14).alloc _)) (by simp; omega) (by omega) (by simp) (Hold.out ?_)))
      refine Hold.mk fun v16 w16 ho16 hg16 => ?_
      have hE16 := hg16.ext ((Ext.refl w14).alloc _) (fun k hk => by simp only [Value.ownBlock, Option.some.injEq] at hk; omega)
      obtain ⟨Y16, c16, rfl, _, _⟩ := ho16.inV
      clear hg16
      go_wp2_with (at_builtin; go_must (refine wpList_appendV elem_u8 (fun _ => rfl) rfl (.tmp 68) (.tmp 75) rfl w14.heap.size (.slice Y16 raw.length c16) raw rfl (ho16.ext ((Ext.refl w16).alloc _)) _ [hb, lb] rfl (OwnV_new2 (f := bv) w16 hb lb _).inV (by simp; omega) (by omega) (by have := hE16.size; simp; omega) (Hold.out ?_)))
      refine Hold.mk fun v17 w17 ho17 hg17 => ?_
      have hE17 := hg17.ext (hE16.alloc _) ho16.ge
      rw [← HSB.out] at ho17
      have il := ho17.inV
      have hll : (raw ++ sumB raw).length ≤ 502 := by simp [sumB]; omega
      obtain ⟨Y17, c17, rfl, _, _⟩ := id il
      have hEl := hEw.trans hE17
      clear hg17 hE16 hE17 ho16 ho17 hhi hlo hEw HSB
      generalize raw ++ sumB raw = ll at *
      go_wp2_with fail
      refine (Decode_any _ ll w17 il (by omega)).mono ?_
      rintro e w18 ⟨v18, px, er, rfl, hd, hpo, he18⟩
      obtain ⟨yy, rfl, hyo⟩ := hpo
      obtain ⟨YY, cyy, rfl, _, _⟩ := hyo.inV
      have hX18 : PktAt w18 (.agg #[.int .i64 px.kind, .int .i64 px.src, .int .i64 px.dst, .int .i64 px.seq, .int .i64 px.ack, .slice YY px.body.length cyy]) px := ⟨_, rfl, hyo.inV⟩
      have hE18 := hEl.trans he18
      replace il := il.ext he18
      clear hyo he18 hEl
      by_cases her : er = 0
      · have e1 : (er != 0) = false := by simp [her]
        obtain ⟨hRx, hEn, hbl⟩ := dec_good hd her
        have HRX := Lib.hid hRx
        have HEN := Lib.hid hEn
        clear her hRx hEn hd
        go_wp2_with fail
        have hex := (Ext.refl w18).alloc (.cells #[.int .i64 px.kind, .int .i64 px.src, .int .i64 px.dst, .int .i64 px.seq, .int .i64 px.ack, .slice YY px.body.length cyy] 39)
        generalize w18.alloc (.cells #[.int .i64 px.kind, .int .i64 px.src, .int .i64 px.dst, .int .i64 px.seq, .int .i64 px.ack, .slice YY px.body.length cyy] 39) = w19 at *
        refine (Encode_any _ px w19 (hX18.ext hex) (by omega)).mono ?_
        rintro e w20 ⟨y20, er20, rfl, hc20, he20⟩
        obtain ⟨rfl, ho20⟩ : er20 = 0 ∧ OwnV bv 5 w19.heap.size w20 y20 (encP px) := by
          rcases hc20 with ⟨_, h1, h2⟩ | ⟨hR', _, _⟩
          · exact ⟨h1, h2⟩
          · exact absurd HRX.out hR'
        rw [HEN.out] at ho20
        have ic := ho20.inV
        obtain ⟨Y20, c20, rfl, _, _⟩ := id ic
        have hs1 := strB ic
        have hs2 := strB (il.ext (hex.trans he20))
        have hE20 := (hE18.trans hex).trans he20
        have tl : (ll == ll) = true := by simp
        clear ic il hex he20 hX18 ho20
        go_wp2_with fail
        refine (awake33_any w20).mono ?_
        rintro e w21 ⟨rfl, he21⟩
        go_wp2
        go_ret
        exact ⟨rfl, hE20.trans he21⟩
      · have e1 : (er != 0) = true := by simpa using her
        have hex := hE18.alloc (.cells #[.int .i64 px.kind, .int .i64 px.src, .int .i64 px.dst, .int .i64 px.seq, .int .i64 px.ack, .slice YY px.body.length cyy] 39)
        clear her hd
        go_wp2_with fail
        refine (awake33_any _).mono ?_
        rintro e w21 ⟨rfl, he21⟩
        go_wp2
        go_ret
        exact ⟨rfl, hex.trans he21⟩
end Go.Proofs.Ytoeibcpjmoekpaa
