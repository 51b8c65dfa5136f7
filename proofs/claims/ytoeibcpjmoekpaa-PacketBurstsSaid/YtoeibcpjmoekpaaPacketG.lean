/- The contract of the reference's Same. -/
import Derived.Test.YtoeibcpjmoekpaaPacketF
namespace Go.Proofs.Ytoeibcpjmoekpaa
open Go.RowKit
set_option linter.unusedVariables false

theorem Pkt.ext_iff' {p q : Pkt} : p = q ↔ p.kind = q.kind ∧ p.src = q.src ∧ p.dst = q.dst ∧ p.seq = q.seq ∧ p.ack = q.ack ∧ p.body = q.body := by
  obtain ⟨a, b, c, d, e, f⟩ := p
  obtain ⟨a', b', c', d', e', f'⟩ := q
  simp

set_option maxHeartbeats 1000000 in
set_option maxRecDepth 100000 in
theorem Same_any (u v : Value) (p q : Pkt) (w : World) (hp : PktAt w u p) (hq : PktAt w v q) :
    Calls Try.prog 28 #[u, v] w (Tells (p = q) w) := by
  obtain ⟨y, rfl, hy⟩ := hp
  obtain ⟨z, rfl, hz⟩ := hq
  have hY := hy
  have hZ := hz
  obtain ⟨A, c, rfl, _, hr⟩ := hy
  obtain ⟨B, d, rfl, _, hs⟩ := hz
  go_enter Try.func28, Try.ntmps28
  go_upto_region 1 with fail
  obtain ⟨W, hW, hE, hB1, hB2⟩ : ∃ W, W = (w.alloc (.cells #[.int .i64 p.kind, .int .i64 p.src, .int .i64 p.dst, .int .i64 p.seq, .int .i64 p.ack, .slice A p.body.length c] 39)).alloc (.cells #[.int .i64 q.kind, .int .i64 q.src, .int .i64 q.dst, .int .i64 q.seq, .int .i64 q.ack, .slice B q.body.length d] 39) ∧ Ext w W ∧
      W.heap[w.heap.size]? = some (.cells #[.int .i64 p.kind, .int .i64 p.src, .int .i64 p.dst, .int .i64 p.seq, .int .i64 p.ack, .slice A p.body.length c] 39 (0, 0)) ∧
      W.heap[w.heap.size + 1]? = some (.cells #[.int .i64 q.kind, .int .i64 q.src, .int .i64 q.dst, .int .i64 q.seq, .int .i64 q.ack, .slice B q.body.length d] 39 (0, 0)) := by
    refine ⟨_, rfl, ((Ext.refl w).alloc _).alloc _, blk_alloc (heap_alloc_new w _) _, ?_⟩
    have := heap_alloc_new (w.alloc (.cells #[.int .i64 p.kind, .int .i64 p.src, .int .i64 p.dst, .int .i64 p.seq, .int .i64 p.ack, .slice A p.body.length c] 39)) (.cells #[.int .i64 q.kind, .int .i64 q.src, .int .i64 q.dst, .int .i64 q.seq, .int .i64 q.ack, .slice B q.body.length d] 39)
    simpa using this
  rw [← hW]
  clear hW
  obtain ⟨q0, q1, q2, q3, q4, q5⟩ := blk6 hB1
  obtain ⟨r0, r1, r2, r3, r4, r5⟩ := blk6 hB2
  have hs1 := strB (hY.ext hE)
  have hs2 := strB (hZ.ext hE)
  by_cases e1 : p.kind = q.kind
  · have t1 : (p.kind == q.kind) = true := by simpa using e1
    have H1 := Lib.hid e1
    clear e1
    by_cases e2 : p.src = q.src
    · have t2 : (p.src == q.src) = true := by simpa using e2
      have H2 := Lib.hid e2
      clear e2
      by_cases e3 : p.dst = q.dst
      · have t3 : (p.dst == q.dst) = true := by simpa using e3
        have H3 := Lib.hid e3
        clear e3
        by_cases e4 : p.seq = q.seq
        · have t4 : (p.seq == q.seq) = true := by simpa using e4
          have H4 := Lib.hid e4
          clear e4
          by_cases e5 : p.ack = q.ack
          · have t5 : (p.ack == q.ack) = true := by simpa using e5
            have H5 := Lib.hid e5
            clear e5
            by_cases e6 : p.body = q.body
            · have t6 : (p.body == q.body) = true := by simpa using e6
              have H6 := Lib.hid e6
              clear e6
              go_wp2
              go_ret
              exact Tells.yes (Pkt.ext_iff'.2 ⟨H1.out, H2.out, H3.out, H4.out, H5.out, H6.out⟩) hE
            · have t6 : (p.body == q.body) = false := by simpa using e6
              have H6 := Lib.hid e6
              clear e6
              go_wp2
              go_ret
              exact Tells.no (fun h => H6.out (by rw [h])) hE
          · have t5 : (p.ack == q.ack) = false := by simpa using e5
            have H5 := Lib.hid e5
            clear e5
            go_wp2
            go_ret
            exact Tells.no (fun h => H5.out (by rw [h])) hE
        · have t4 : (p.seq == q.seq) = false := by simpa using e4
          have H4 := Lib.hid e4
          clear e4
          go_wp2
          go_ret
          exact Tells.no (fun h => H4.out (by rw [h])) hE
      · have t3 : (p.dst == q.dst) = false := by simpa using e3
        have H3 := Lib.hid e3
        clear e3
        go_wp2
        go_ret
        exact Tells.no (fun h => H3.out (by rw [h])) hE
    · have t2 : (p.src == q.src) = false := by simpa using e2
      have H2 := Lib.hid e2
      clear e2
      go_wp2
      go_ret
      exact Tells.no (fun h => H2.out (by rw [h])) hE
  · have t1 : (p.kind == q.kind) = false := by simpa using e1
    have H1 := Lib.hid e1
    clear e1
    go_wp2
    go_ret
    exact Tells.no (fun h => H1.out (by rw [h])) hE
end Go.Proofs.Ytoeibcpjmoekpaa
