/- Lists of numbers as bytes: appendList and the reference's list. -/
import Derived.Test.YtoeibcpjmoekpaaWireE
import Derived.Test.YtoeibcpjmoekpaaWireR
import Derived.Test.YtoeibcpjmoekpaaRegion4
import Derived.Test.YtoeibcpjmoekpaaKit
import Derived.Test.YtoeibcpjmoekpaaPlain3
import Derived.Deep.DeepCutAuto
import Derived.Outline
namespace Go.Proofs.Ytoeibcpjmoekpaa
open Go.RowKit
set_option linter.unusedVariables false

theorem elem_u8 : Elem1 Try.prog 22 5 1 := by
  obtain ⟨i0, hi, hz0, hz1, hz2⟩ := info_parts u8_info
  exact ⟨Try.underlying22, i0, _, hi, hz0, hz1, hz2, rfl⟩
theorem int_info : (Try.prog.info? 3).map (fun i => (i.zero, i.size, i.bytes)) = some (some (.int .i64 0), 1, 8) := by kernel_rfl
theorem elem_int : Elem1 Try.prog 26 3 8 := by
  obtain ⟨i0, hi, hz0, hz1, hz2⟩ := info_parts int_info
  exact ⟨Try.underlying26, i0, _, hi, hz0, hz1, hz2, rfl⟩
theorem OwnB.toV {base : Nat} {w : World} {v : Value} {l : List UInt8} (h : OwnB base w v l) : OwnV bv 5 base w v l := h

/-- a number of 64 bits -/
def I64 (x : Int) : Prop := -9223372036854775808 ≤ x ∧ x ≤ 9223372036854775807
def intsB (l : List Int) : List UInt8 := l.flatMap (fun v => leb (zig v))
def listB (l : List Int) : List UInt8 := uintB l.length ++ intsB l
theorem intsB_cons (x : Int) (l : List Int) : intsB (x :: l) = leb (zig x) ++ intsB l := by rw [intsB, List.flatMap_cons, ← intsB]
theorem intsB_append (l m : List Int) : intsB (l ++ m) = intsB l ++ intsB m := by simp [intsB]
theorem intsB_take (l : List Int) (k : Nat) (h : k < l.length) : intsB (l.take (k + 1)) = intsB (l.take k) ++ leb (zig l[k]) := by
  rw [List.take_succ_eq_append_getElem h, intsB_append, intsB_cons]
  simp [intsB]
theorem intsB_len (l : List Int) (h : ∀ x ∈ l, I64 x) : (intsB l).length ≤ 10 * l.length := by
  induction l with
  | nil => simp [intsB]
  | cons x l ih =>
    rw [intsB_cons, List.length_append, List.length_cons]
    have h1 := leb_len10 (zig_lt (h x (by simp)).1 (h x (by simp)).2)
    have h2 := ih (fun y hy => h y (by simp [hy]))
    omega
theorem listB_len (l : List Int) (h : ∀ x ∈ l, I64 x) (hl : l.length ≤ 9223372036854775807) : (listB l).length ≤ 10 + 10 * l.length := by
  have h1 := intsB_len l h
  have h2 := uintB_len (v := (l.length : Int)) (by omega)
  simp only [listB, List.length_append]; omega
theorem Ext.grew {w w' : World} (h : Ext w w') (v : Value) : Grew w w' v v :=
  ⟨⟨h.os, h.tape, h.output, h.size, fun i hi _ => h.block i hi⟩, .inl rfl⟩
theorem InI.at_ {w : World} {A : Option Addr} {c n : Nat} {l : List Int} (h : InI w (.slice A n c) l) {k : Nat} (hk : k < l.length) : ∃ b off, A = some ⟨b, off, none⟩ ∧ w.cell? ⟨b, off + k, none⟩ = some (.int .i64 l[k]) := by
  obtain ⟨A', c', e, _, hr⟩ := h
  cases e
  obtain ⟨b, off, e2, hc⟩ := hr.at2 (k := k) (by simpa using hk)
  exact ⟨b, off, e2, by rw [hc]; simp [iv]⟩

set_option maxHeartbeats 4000000 in
set_option maxRecDepth 100000 in
theorem appendList_any (base : Nat) (v z : Value) (l : List UInt8) (xs : List Int) (w : World) (ho : OwnV bv 5 base w v l) (hb : base ≤ w.heap.size)
    (hz : InI w z xs) (hk : ∀ v' W, Grew w W v v' → InI W z xs) (hx : ∀ x ∈ xs, I64 x) (hl : l.length ≤ 500000000) (hl2 : xs.length ≤ 10000000) :
    Calls Try.prog 38 #[v, z] w fun e w' => ∃ v', e = .returned v' ∧ OwnV bv 5 base w' v' (l ++ listB xs) ∧ Grew w w' v v' := by
  obtain ⟨A, c, rfl, _, _⟩ := id hz
  have HX := Lib.hid hx
  have HK := Lib.hid hk
  clear hx hk
  have hul := uintB_len (v := (xs.length : Int)) (by omega)
  go_enter Try.func38, Try.ntmps38
  go_wp2_with fail
  refine (AppendUint_any (.slice none 0 0) [] (xs.length : Int) w (InV.nil w) (by simp) (by omega)).mono ?_
  rintro e w1 ⟨y1, rfl, ho1, he1⟩
  rw [List.nil_append] at ho1
  have hs1 := he1.size
  go_wp2_with (at_builtin; go_must (refine wpList_appendV elem_u8 (fun _ => rfl) rfl (.tmp 7) (.tmp 10) rfl base v l rfl (ho.ext he1) y1 (uintB xs.length) rfl ho1.toV.inV (by omega) (by omega) (by omega) (Hold.out ?_)))
  refine Hold.mk fun v2 w2 ho2 hg2 => ?_
  have hG2 := (he1.grew v).trans hg2
  clear hg2 ho1 he1 hs1
  go_wp2_with fail
  have H0 : OwnV bv 5 base w2 v2 (l ++ (uintB xs.length ++ intsB (xs.take 0))) := by simpa [intsB] using ho2
  go_loopw [0, 14] (fun b i wr => ∃ j : Nat, j ≤ xs.length ∧ i = .int .i64 (j : Int) ∧ OwnV bv 5 base wr b (l ++ (uintB xs.length ++ intsB (xs.take j))) ∧ Grew w wr v b) (fun _ i _ => xs.length - (intOf i).toNat)
  case atStart => exact ⟨0, by omega, rfl, H0, hG2⟩
  case round =>
    clear H0 ho2
    obtain ⟨j, hj, rfl, hoj, hG⟩ := hrel
    by_cases hlt : j < xs.length
    · have HS := Lib.hid (intsB_take xs j hlt)
      obtain ⟨B, off, rfl, hc⟩ := (HK.out _ _ hG).at_ hlt
      have hxj := HX.out _ (List.getElem_mem hlt)
      have hlen := intsB_len (xs.take j) (fun x hx => HX.out x (List.mem_of_mem_take hx))
      have htl : (xs.take j).length ≤ j := by simp; omega
      have hij : (j : Int) < (xs.length : Int) := by omega
      generalize xs[j] = xj at *
      have hzl := leb_len10 (zig_lt hxj.1 hxj.2)
      have hbs := hG.grown.size
      go_wp2_with fail
      refine (AppendInt_any (.slice none 0 0) [] xj wr (InV.nil wr) (by simp) hxj.1 hxj.2).mono ?_
      rintro e w3 ⟨y3, rfl, ho3, he3⟩
      rw [List.nil_append] at ho3
      have hs3 := he3.size
      go_wp2_with (at_builtin; go_must (refine wpList_appendV elem_u8 (fun _ => rfl) rfl (.tmp 18) (.tmp 20) rfl base _ _ rfl (hoj.ext he3) y3 (leb (zig xj)) rfl ho3.toV.inV (by simp only [List.length_append]; omega) (by omega) (by omega) (Hold.out ?_)))
      refine Hold.mk fun v4 w4 ho4 hg4 => ?_
      have hG4 := (hG.trans (he3.grew _)).trans hg4
      go_wp2_with fail
      go_roundw
      case rel => exact ⟨j + 1, by omega, by go_num, by rw [HS.out]; simpa [List.append_assoc] using ho4, hG4⟩
      case measure => simp [intOf]; omega
    · obtain rfl : j = xs.length := by omega
      go_wp2_with fail
      go_ret
      exact ⟨_, rfl, by rw [listB]; simpa using hoj, hG⟩

set_option maxHeartbeats 4000000 in
set_option maxRecDepth 100000 in
theorem reflist_any (v z : Value) (l : List UInt8) (xs : List Int) (w : World) (hv : InB w v l)
    (hz : InI w z xs) (hx : ∀ x ∈ xs, I64 x) (hl : l.length ≤ 500000000) (hl2 : xs.length ≤ 10000000) :
    Calls Try.prog 39 #[v, z] w fun e w' => ∃ v', e = .returned v' ∧ OwnV bv 5 w.heap.size w' v' (l ++ listB xs) ∧ Ext w w' := by
  obtain ⟨A, c, rfl, _, _⟩ := id hz
  have HX := Lib.hid hx
  clear hx
  have hul := uintB_len (v := (xs.length : Int)) (by omega)
  go_enter Try.func39, Try.ntmps39
  go_wp2_with fail
  refine (refAppendUint_any v l (xs.length : Int) w hv (by omega) (by omega)).mono ?_
  rintro e w1 ⟨y1, rfl, ho1, he1⟩
  go_wp2_with fail
  have H0 : OwnV bv 5 w.heap.size w1 y1 (l ++ (uintB xs.length ++ intsB (xs.take 0))) := by simpa [intsB] using ho1.toV
  go_loopw [0, 5] (fun b i wr => ∃ j : Nat, j ≤ xs.length ∧ i = .int .i64 (j : Int) ∧ OwnV bv 5 w.heap.size wr b (l ++ (uintB xs.length ++ intsB (xs.take j))) ∧ Ext w wr) (fun _ i _ => xs.length - (intOf i).toNat)
  case atStart => exact ⟨0, by omega, rfl, H0, he1⟩
  case round =>
    clear H0 ho1
    obtain ⟨j, hj, rfl, hoj, hG⟩ := hrel
    by_cases hlt : j < xs.length
    · have HS := Lib.hid (intsB_take xs j hlt)
      obtain ⟨B, off, rfl, hc⟩ := InI.at_ (hz.ext hG) hlt
      have hxj := HX.out _ (List.getElem_mem hlt)
      have hlen := intsB_len (xs.take j) (fun x hx => HX.out x (List.mem_of_mem_take hx))
      have htl : (xs.take j).length ≤ j := by simp; omega
      have hij : (j : Int) < (xs.length : Int) := by omega
      generalize xs[j] = xj at *
      have hzl := leb_len10 (zig_lt hxj.1 hxj.2)
      go_wp2_with fail
      refine (refAppendInt_any _ _ xj wr hoj.inV (by simp only [List.length_append]; omega) hxj.1 hxj.2).mono ?_
      rintro e w3 ⟨y3, rfl, ho3, he3⟩
      have ho4 := ho3.toV.low (base' := w.heap.size) hG.size
      go_wp2_with fail
      go_roundw
      case rel => exact ⟨j + 1, by omega, by go_num, by rw [HS.out]; simpa [List.append_assoc] using ho4, hG.trans he3⟩
      case measure => simp [intOf]; omega
    · obtain rfl : j = xs.length := by omega
      go_wp2_with fail
      go_ret
      exact ⟨_, rfl, by rw [listB]; simpa using hoj, hG⟩
end Go.Proofs.Ytoeibcpjmoekpaa
