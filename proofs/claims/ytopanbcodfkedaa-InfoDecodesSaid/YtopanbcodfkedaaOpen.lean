/- How the arguments of a statement are opened: each reading gives a list or a number. No program here. -/
import Derived.Test.YtopanbcodfkedaaBase
import Derived.ProofKit
import Derived.OpenShut
import Derived.ShutString
import Derived.ChangeOld
import Derived.Deep.Grids
namespace Go.Proofs.Ytopanbcodfkedaa
open Go.ChangeShapes Go.WideShapes Go.ChangeAt Go.RowKit

section
variable {H : Type} {enc : TypeId × Value → H} {P : Program} {w : World} {base : Nat} {held : Bool}

theorem add_zero_spot {a : Addr} {v : Value} (h : w.cell? a = some v) : a.spot = none := World.cell?_spot h

/-- a slice of integers of kind k -/
theorem trod_intsK {t e : TypeId} {k : IntKind} {fuel : Nat} {v : Value} {x : DataW H × List MemPlace} (ht : P.underlying t = some (.slice e)) (he : P.underlying e = some (.int k)) (hc : P.cellsOf e = 1)
    (h : DataW.trod enc P w base (fun _ => true) held fuel t [v] = some x) :
    ∃ l : List Int, InV (Value.int k) w v l ∧ l.length ≤ maxLen ∧ ∀ n ∈ l, (Lit.int k n).wf = true := by
  rcases open_ints ht he hc h with ⟨hcs, _⟩ | ⟨a, len, cap, zs, hcs, _, hl, hm, hz, _, hcell, hwz⟩
  · simp at hcs; subst hcs
    exact ⟨[], InV.nil w, Nat.zero_le _, by simp⟩
  · simp at hcs; subst hcs
    simp only [if_true] at hz
    have hlen : (zs.take len).length = len := by simp; omega
    refine ⟨zs.take len, ⟨some a, cap, by rw [hlen], by omega, ?_⟩, by omega, fun n hn => hwz n (List.mem_of_mem_take hn)⟩
    intro j u hu
    rw [List.getElem?_map] at hu
    cases hj : (zs.take len)[j]? with
    | none => rw [hj] at hu; simp at hu
    | some n =>
      rw [hj] at hu; simp at hu; subst hu
      have hjl : j < len := by
        have := (List.getElem?_eq_some_iff.1 hj).1; omega
      refine ⟨a, rfl, ?_⟩
      rw [hcell j (by omega)]
      rw [List.getElem?_take, if_pos hjl] at hj
      simp [List.getD, hj]
theorem trod_bytes {t e : TypeId} {fuel : Nat} {v : Value} {x : DataW H × List MemPlace} (ht : P.underlying t = some (.slice e)) (he : P.underlying e = some (.int .u8)) (hc : P.cellsOf e = 1)
    (h : DataW.trod enc P w base (fun _ => true) held fuel t [v] = some x) : ∃ l : List UInt8, InB w v l ∧ l.length ≤ maxLen := by
  obtain ⟨l, ⟨A, c, rfl, hc', hr⟩, hm, hw⟩ := trod_intsK ht he hc h
  refine ⟨l.map fun n => UInt8.ofNat n.toNat, ⟨A, c, by simp, by simpa using hc', ?_⟩, by simpa using hm⟩
  have e : (l.map fun n => UInt8.ofNat n.toNat).map bv = l.map (Value.int .u8) := by
    rw [List.map_map]
    apply List.map_congr_left
    intro n hn
    have := hw n hn
    simp [Lit.wf, IntKind.min, IntKind.max, IntKind.signed, IntKind.bits] at this
    simp [bv]
    omega
  rw [e]; exact hr
theorem trod_int64s {t e : TypeId} {fuel : Nat} {v : Value} {x : DataW H × List MemPlace} (ht : P.underlying t = some (.slice e)) (he : P.underlying e = some (.int .i64)) (hc : P.cellsOf e = 1)
    (h : DataW.trod enc P w base (fun _ => true) held fuel t [v] = some x) : ∃ l : List Int, InI w v l ∧ l.length ≤ maxLen ∧ ∀ n ∈ l, -9223372036854775808 ≤ n ∧ n ≤ 9223372036854775807 := by
  obtain ⟨l, hi, hm, hw⟩ := trod_intsK ht he hc h
  refine ⟨l, hi, hm, fun n hn => ?_⟩
  have := hw n hn
  simpa [Lit.wf, IntKind.min, IntKind.max, IntKind.signed, IntKind.bits] using this
theorem trod_bools {t e : TypeId} {fuel : Nat} {v : Value} {x : DataW H × List MemPlace} (ht : P.underlying t = some (.slice e)) (he : P.underlying e = some .bool) (hc : P.cellsOf e = 1)
    (h : DataW.trod enc P w base (fun _ => true) held fuel t [v] = some x) : ∃ l : List Bool, InBl w v l ∧ l.length ≤ maxLen := by
  rcases Go.Deep.open_bools ht he hc h with ⟨hcs, _⟩ | ⟨a, len, cap, B, hcs, _, hl, hm, _, hcell⟩
  · simp at hcs; subst hcs
    exact ⟨[], InV.nil w, Nat.zero_le _⟩
  · simp at hcs; subst hcs
    refine ⟨(List.range len).map B, ⟨some a, cap, by simp, by simpa using hl, ?_⟩, by simp; omega⟩
    intro j u hu
    rw [List.map_map, List.getElem?_map] at hu
    by_cases hj : j < len
    · rw [List.getElem?_range hj] at hu
      simp at hu; subst hu
      exact ⟨a, rfl, hcell j (by omega)⟩
    · rw [List.getElem?_eq_none (by simp; omega)] at hu; simp at hu
theorem wf_i64 {a : Int} (h : (Lit.int .i64 a).wf = true) : -9223372036854775808 ≤ a ∧ a ≤ 9223372036854775807 := by
  simpa [Lit.wf, IntKind.min, IntKind.max, IntKind.signed, IntKind.bits] using h
end
end Go.Proofs.Ytopanbcodfkedaa
