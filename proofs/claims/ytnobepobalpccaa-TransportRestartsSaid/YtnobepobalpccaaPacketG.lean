/- The contract of the reference's Same. -/
import Derived.Test.YtnobepobalpccaaPacketF
namespace Go.Proofs.Ytnobepobalpccaa
open Go.RowKit
set_option linter.unusedVariables false

theorem Pkt.ext_iff' {p q : Pkt} : p = q ↔ p.kind = q.kind ∧ p.src = q.src ∧ p.dst = q.dst ∧ p.seq = q.seq ∧ p.ack = q.ack ∧ p.body = q.body := by
  obtain ⟨a, b, c, d, e, f⟩ := p
  obtain ⟨a', b', c', d', e', f'⟩ := q
  simp

end Go.Proofs.Ytnobepobalpccaa
