/- How an argument of type api.Packet is opened. -/
import Derived.Test.YtpngmnfjefplkaaOpenS
import Derived.Test.YtpngmnfjefplkaaPacketB
namespace Go.Proofs.Ytpngmnfjefplkaa
open Go.ChangeShapes Go.WideShapes Go.ChangeAt Go.RowKit Go.Joins

set_option maxRecDepth 100000 in
theorem open_packet {H : Type} {enc : TypeId × Value → H} {w : World} {r : Reach} {b0 base : Nat} {held : Bool} {v : Value} {d : DataW H} {p : List MemPlace} (hv : Value.okWide Try.prog w r b0 47 v) (h : DataW.Trod enc Try.prog w base (fun _ => true) held 47 v d p) :
    ∃ q : Pkt, PktAt w v q ∧ q.body.length ≤ 9223372036854775807 ∧ (∀ n, n ∈ [q.kind, q.src, q.dst, q.seq, q.ack] → -9223372036854775808 ≤ n ∧ n ≤ 9223372036854775807) := by
  obtain ⟨cs, rfl, hl, n, hf⟩ := open_fields Try.underlying47 (by kernel_rfl) (by kernel_rfl) hv h
  obtain ⟨c0, c1, c2, c3, c4, c5, rfl⟩ := list6 (by simpa using hl)
  obtain ⟨u0, y0, e0, t0⟩ := hf 0 _ rfl
  obtain ⟨u1, y1, e1, t1⟩ := hf 1 _ rfl
  obtain ⟨u2, y2, e2, t2⟩ := hf 2 _ rfl
  obtain ⟨u3, y3, e3, t3⟩ := hf 3 _ rfl
  obtain ⟨u4, y4, e4, t4⟩ := hf 4 _ rfl
  obtain ⟨u5, y5, e5, t5⟩ := hf 5 _ rfl
  simp only [List.getElem?_cons_zero, List.getElem?_cons_succ, Option.some.injEq] at e0 e1 e2 e3 e4 e5
  subst e0 e1 e2 e3 e4 e5
  obtain ⟨k0, e0, _, w0⟩ := DataW.trod_int Try.underlying3 t0
  obtain ⟨k1, e1, _, w1⟩ := DataW.trod_int Try.underlying3 t1
  obtain ⟨k2, e2, _, w2⟩ := DataW.trod_int Try.underlying3 t2
  obtain ⟨k3, e3, _, w3⟩ := DataW.trod_int Try.underlying3 t3
  obtain ⟨k4, e4, _, w4⟩ := DataW.trod_int Try.underlying3 t4
  obtain ⟨l5, i5, m5⟩ := trod_bytes Try.underlying32 Try.underlying5 (by kernel_rfl) t5
  injection e0 with e0
  injection e1 with e1
  injection e2 with e2
  injection e3 with e3
  injection e4 with e4
  subst e0 e1 e2 e3 e4
  refine ⟨⟨k0, k1, k2, k3, k4, l5⟩, ⟨_, rfl, i5⟩, by simpa [maxLen] using m5, ?_⟩
  intro n hn
  simp only [List.mem_cons, List.not_mem_nil, or_false] at hn
  rcases hn with rfl | rfl | rfl | rfl | rfl
  · exact wf_i64 w0
  · exact wf_i64 w1
  · exact wf_i64 w2
  · exact wf_i64 w3
  · exact wf_i64 w4
end Go.Proofs.Ytpngmnfjefplkaa
