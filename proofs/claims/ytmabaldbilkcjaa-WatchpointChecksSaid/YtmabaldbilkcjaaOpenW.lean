/- How an argument of type api.Datum is opened. -/
import Derived.Test.YtmabaldbilkcjaaOpen
import Derived.Test.YtmabaldbilkcjaaWatchA
import Derived.Lib.SmallJoins
namespace Go.Proofs.Ytmabaldbilkcjaa
open Go.ChangeShapes Go.WideShapes Go.ChangeAt Go.RowKit Go.Joins

theorem open_datum {H : Type} {enc : TypeId × Value → H} {w : World} {r : Reach} {b0 base : Nat} {held : Bool} {v : Value} {d : DataW H} {p : List MemPlace} (hv : Value.okWide Try.prog w r b0 25 v) (h : DataW.Trod enc Try.prog w base (fun _ => true) held 25 v d p) :
    ∃ D : Dat, DatAt w v D ∧ D.known.length ≤ 9223372036854775807 ∧ D.words.length ≤ 9223372036854775807 := by
  obtain ⟨v0, v1, v2, v3, y0, y1, y2, y3, n, rfl, _, _, t0, t1, t2, t3⟩ := open_agg4 Try.underlying25 (by kernel_rfl) (by kernel_rfl) hv h
  obtain ⟨k0, e0, _, _⟩ := DataW.trod_int Try.underlying3 t0
  obtain ⟨k1, e1, _, _⟩ := DataW.trod_int Try.underlying3 t1
  obtain ⟨l2, i2, m2⟩ := trod_bools Try.underlying22 Try.underlying4 (by kernel_rfl) t2
  obtain ⟨l3, i3, m3, _⟩ := trod_int64s Try.underlying23 Try.underlying3 (by kernel_rfl) t3
  injection e0 with e0
  injection e1 with e1
  subst e0 e1
  exact ⟨⟨k0, k1, l2, l3⟩, ⟨v2, v3, rfl, i2, i3⟩, by simpa [maxLen] using m2, by simpa [maxLen] using m3⟩
end Go.Proofs.Ytmabaldbilkcjaa
