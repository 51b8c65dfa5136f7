/- The reference's Push; large; Same; Bodies. -/
import Derived.Test.YtnobepobalpccaaTraB
namespace Go.Proofs.Ytnobepobalpccaa
open Go.RowKit
set_option linter.unusedVariables false


theorem ownV_empty {α : Type} {f : α → Value} (w : World) (e : TypeId) : OwnV f e w.heap.size (w.alloc (.cells #[] e)) (.slice (some ⟨w.heap.size, 0, none⟩) 0 0) [] :=
  ⟨rfl, .inr ⟨w.heap.size, 0, #[], rfl, Nat.le_refl _, heap_alloc_new w _, Nat.le_refl _, Nat.zero_le _, rfl, rfl⟩⟩
def LargePost (q : List (List UInt8)) (w : World) (en : Ending) (w' : World) : Prop := ∃ r : Bool, en = .returned (.bool r) ∧ (r = false → q.length ≤ 20 ∧ ∀ b ∈ q, b.length ≤ 300) ∧ Ext w w'
end Go.Proofs.Ytnobepobalpccaa
