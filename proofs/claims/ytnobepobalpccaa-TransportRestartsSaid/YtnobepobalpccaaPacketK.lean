/- The contract of the reference's Decode. -/
import Derived.Test.YtnobepobalpccaaPacketJ
import Derived.Test.YtnobepobalpccaaRegion3
import Derived.Test.YtnobepobalpccaaWireE
namespace Go.Proofs.Ytnobepobalpccaa
open Go.RowKit
set_option linter.unusedVariables false

/-- the boxes of the result, of the packet and of the numbers -/
structure RB (w W : World) (gp gn : Nat) (k : Array Value) (l : List UInt8) (j : Nat) : Prop where
  res : W.heap[w.heap.size]? = some (.cells #[.int .i64 0, .int .i64 0, .int .i64 0, .int .i64 0, .int .i64 0, .slice none 0 0] 56 (0, 0))
  pkt : W.heap[gp]? = some (.cells k 56 (0, 0))
  num : W.heap[gn]? = some (.cells #[ncell l j 0, ncell l j 1, ncell l j 2, ncell l j 3, ncell l j 4] 66 (0, 0))
  ext : Ext w W
  lt : w.heap.size < gp ∧ gp < gn
theorem RB.drewN {w W : World} {gp gn : Nat} {k : Array Value} {l : List UInt8} {j : Nat} (h : RB w W gp gn k l j) (n : Nat) : RB w (W.drewN n) gp gn k l j := ⟨h.res, h.pkt, h.num, h.ext.drewN n, h.lt⟩
theorem RB.drew {w W : World} {gp gn : Nat} {k : Array Value} {l : List UInt8} {j : Nat} (h : RB w W gp gn k l j) : RB w W.drew gp gn k l j := ⟨h.res, h.pkt, h.num, h.ext.drew, h.lt⟩
theorem RB.step {w W : World} {gp gn : Nat} {k : Array Value} {l : List UInt8} {j : Nat} (h : RB w W gp gn k l j) (hj : j < 5) : RB w (W.setCell ⟨gn, j, none⟩ (.int .i64 (val l j))) gp gn k l (j + 1) := by
  have hlt := h.lt
  refine ⟨blk_far h.res (by show w.heap.size ≠ gn; omega) _, blk_far h.pkt (by show gp ≠ gn; omega) _, ?_, h.ext.setCell (by show w.heap.size ≤ gn; omega) _, h.lt⟩
  have := blk_set h.num j (.int .i64 (val l j))
  rw [this]
  rcases (show j = 0 ∨ j = 1 ∨ j = 2 ∨ j = 3 ∨ j = 4 by omega) with rfl | rfl | rfl | rfl | rfl <;> simp [ncell]
theorem RB.grow {w W W' : World} {gp gn : Nat} {k : Array Value} {l : List UInt8} {j : Nat} (h : RB w W gp gn k l j) (he : Ext W W') : RB w W' gp gn k l j := ⟨he.heap h.res, he.heap h.pkt, he.heap h.num, h.ext.trans he, h.lt⟩
theorem RB.put {w W : World} {gp gn : Nat} {k : Array Value} {l : List UInt8} {j : Nat} (h : RB w W gp gn k l j) (i : Nat) (v : Value) : RB w (W.setCell ⟨gp, i, none⟩ v) gp gn (k.setIfInBounds i v) l j := by
  have hlt := h.lt
  exact ⟨blk_far h.res (by show w.heap.size ≠ gp; omega) _, blk_set h.pkt i v, blk_far h.num (by show gn ≠ gp; omega) _, h.ext.setCell (by show w.heap.size ≤ gp; omega) _, h.lt⟩

end Go.Proofs.Ytnobepobalpccaa
