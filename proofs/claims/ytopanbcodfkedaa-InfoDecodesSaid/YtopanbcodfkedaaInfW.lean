/- What the specification's Encode computes: plain words. -/
import Derived.Test.YtopanbcodfkedaaInfV
import Derived.Test.YtopanbcodfkedaaPlain2
namespace Go.Proofs.Ytopanbcodfkedaa
open Go.RowKit
set_option linter.unusedVariables false
set_option linter.unusedSimpArgs false

theorem numB_head {v : Int} (h0 : 0 ≤ v) (h1 : v ≤ 9223372036854775807) (r : List UInt8) : uintR (uintB v ++ r) 0 = (v, ((uintB v).length : Int), 0) := by
  have := uintR_leb (v := v.toNat) (by omega) [] r
  have e : uintB v = leb v.toNat := by unfold uintB; rw [if_neg (by omega)]
  rw [e]
  simpa [Int.toNat_of_nonneg h0] using this
theorem uintB_pos {v : Int} (h0 : 0 ≤ v) : 0 < (uintB v).length := by
  unfold uintB
  rw [if_neg (by omega)]
  exact leb_pos _
theorem numB_inj : ∀ {a b : List Int}, (∀ v ∈ a, 0 ≤ v ∧ v ≤ 9223372036854775807) → (∀ v ∈ b, 0 ≤ v ∧ v ≤ 9223372036854775807) → numB a = numB b → a = b
  | [], [], _, _, _ => rfl
  | [], u :: b, _, hb, h => by
    have h1 := uintB_pos (hb u (by simp)).1
    have := congrArg List.length h
    simp only [numB, List.flatMap_nil, List.flatMap_cons, List.length_nil, List.length_append] at this
    omega
  | v :: a, [], ha, _, h => by
    have h1 := uintB_pos (ha v (by simp)).1
    have := congrArg List.length h
    simp only [numB, List.flatMap_nil, List.flatMap_cons, List.length_nil, List.length_append] at this
    omega
  | v :: a, u :: b, ha, hb, h => by
    have hv := ha v (by simp)
    have hu := hb u (by simp)
    have e : uintB v ++ numB a = uintB u ++ numB b := h
    have e1 := numB_head hv.1 hv.2 (numB a)
    rw [e, numB_head hu.1 hu.2] at e1
    have e2 : u = v := by injection e1
    subst e2
    rw [numB_inj (fun x hx => ha x (by simp [hx])) (fun x hx => hb x (by simp [hx])) (List.append_cancel_left e)]
def shN (s : RSh) : List Int := [s.tag, s.kids, ((s.names.length / 2 : Nat) : Int)] ++ s.names
def shB (s : RSh) : List UInt8 := numB (shN s)
theorem shB_of (e : Ent) (k : Bool) : shB (rshOf e k) = shapeB e k := by
  unfold shB shapeB shN shapeN rshOf
  simp only
  rw [attsN_len, show 2 * e.attrs.length / 2 = e.attrs.length by omega]
/-- a shape that an entry has -/
def ShOf (s : RSh) : Prop := ∃ (e : Ent) (k : Bool), s = rshOf e k ∧ okAtts e.attrs ∧ 1 ≤ e.tag ∧ e.tag ≤ 63
theorem ShOf.rng {s : RSh} (h : ShOf s) : ∀ v ∈ shN s, 0 ≤ v ∧ v ≤ 9223372036854775807 := by
  obtain ⟨e, k, rfl, h1, h2, h3⟩ := h
  intro v hv
  unfold shN rshOf at hv
  simp only [List.mem_append, List.mem_cons, List.not_mem_nil, or_false] at hv
  have hl := attsN_len e.attrs
  have h12 := h1.1
  rcases hv with (rfl | rfl | rfl) | hv
  · omega
  · cases k <;> simp
  · omega
  · unfold attsN at hv
    simp only [List.mem_flatMap, List.mem_cons, List.not_mem_nil, or_false] at hv
    obtain ⟨a, ha, hv⟩ := hv
    have ho := h1.2.1 a ha
    unfold okAtt at ho
    rcases hv with rfl | rfl <;> omega
theorem ShOf.len {s : RSh} (h : ShOf s) : s.names.length ≤ 24 := by
  obtain ⟨e, k, rfl, h1, _⟩ := h
  have := attsN_len e.attrs
  have h12 := h1.1
  unfold rshOf
  simp only
  omega
theorem ShOf.bytes {s : RSh} (h : ShOf s) : (shB s).length ≤ 270 := by
  obtain ⟨e, k, rfl, h1, h2⟩ := h
  rw [shB_of]
  exact shapeB_len k h1 h2
theorem ShOf.inj {s t : RSh} (hs : ShOf s) (ht : ShOf t) (h : shB s = shB t) : s = t := by
  have e := numB_inj hs.rng ht.rng h
  unfold shN at e
  simp only [List.cons_append, List.nil_append] at e
  injection e with e1 e2
  injection e2 with e2 e3
  injection e3 with e3 e4
  cases s; cases t
  simp only at e1 e2 e4
  rw [e1, e2, e4]
theorem sames_iff (a b : RSh) : (a.tag = b.tag ∧ a.kids = b.kids ∧ a.names = b.names) ↔ a = b := by
  cases a; cases b
  simp
/-- where a shape stands among others -/
theorem sh_found {Z : List RSh} {s : RSh} (hZ : ∀ z ∈ Z, ShOf z) (hs : ShOf s) {m : Nat} (hm : m ≤ Z.length) (hn : ∀ i (h : i < Z.length), i < m → Z[i] ≠ s) (hf : ∀ h : m < Z.length, Z[m] = s) :
    (if m = Z.length then Z.map shB ++ [shB s] else Z.map shB) = addS (Z.map shB) (shB s) ∧ (addS (Z.map shB) (shB s)).idxOf (shB s) = m := by
  have hne : ∀ i (h : i < Z.length), i < m → shB Z[i] ≠ shB s := fun i h h2 e => hn i h h2 ((hZ _ (List.getElem_mem h)).inj hs e)
  by_cases hml : m = Z.length
  · have hnot : shB s ∉ Z.map shB := fun h => by
      obtain ⟨z, hz, e⟩ := List.mem_map.1 h
      obtain ⟨i, hi, rfl⟩ := List.getElem_of_mem hz
      exact hne i hi (by omega) e
    rw [if_pos hml]
    unfold addS
    rw [if_neg hnot]
    refine ⟨rfl, ?_⟩
    rw [List.idxOf_append, if_neg hnot, hml]
    simp
  · rw [if_neg hml]
    have hlt : m < Z.length := by omega
    have hmem : shB s ∈ Z.map shB := List.mem_map.2 ⟨Z[m], List.getElem_mem hlt, by rw [hf hlt]⟩
    unfold addS
    rw [if_pos hmem]
    refine ⟨rfl, ?_⟩
    have e : Z.map shB = (Z.take m).map shB ++ (shB s :: (Z.drop (m + 1)).map shB) := by
      conv => lhs; rw [← List.take_append_drop m Z, List.drop_eq_getElem_cons hlt, hf hlt]
      rw [List.map_append, List.map_cons]
    rw [e, List.idxOf_append, if_neg, List.idxOf_cons_self, List.length_map, List.length_take]
    · omega
    · intro h
      obtain ⟨z, hz, e2⟩ := List.mem_map.1 h
      obtain ⟨i, hi, rfl⟩ := List.getElem_of_mem hz
      rw [List.length_take] at hi
      rw [List.getElem_take] at e2
      exact hne i (by omega) (by omega) e2
/-- what the specification's Encode has made -/
structure EncR (w : World) (zs : List (RSh × Value)) (sv av : Value) (ab : List UInt8) (ev : Value) (en : List UInt8) (W : World) : Prop where
  sh : OwnR rshCells 3 69 w.heap.size W sv zs
  nm : ∀ z ∈ zs, OwnV iv 3 w.heap.size W z.2 z.1.names
  ab : OwnV bv 5 w.heap.size W av ab
  ent : OwnV bv 5 w.heap.size W ev en
  apart : av.ownBlock = none ∨ av.ownBlock ≠ ev.ownBlock
  ext : Ext w W
section
variable {w W W' : World} {zs : List (RSh × Value)} {sv av ev : Value} {ab en : List UInt8}
theorem EncR.size (h : EncR w zs sv av ab ev en W) : w.heap.size ≤ W.heap.size := h.ext.size
theorem EncR.aside (h : EncR w zs sv av ab ev en W) (he : Ext W W') : EncR w zs sv av ab ev en W' := ⟨h.sh.ext he, fun z hz => (h.nm z hz).ext he, h.ab.ext he, h.ent.ext he, h.apart, h.ext.trans he⟩
theorem EncR.ne (h : EncR w zs sv av ab ev en W) : ev.ownBlock = none ∨ ev.ownBlock ≠ av.ownBlock := by
  rcases h.apart with e | e
  · by_cases h1 : ev.ownBlock = none
    · exact .inl h1
    · exact .inr (fun e2 => h1 (e2.trans e))
  · exact .inr (fun e2 => e e2.symm)
theorem grew_apart {W W' : World} {u v v' : Value} {f : UInt8 → Value} {t : TypeId} {b : Nat} {l : List UInt8} (ho : OwnV f t b W u l) (h : u.ownBlock = none ∨ u.ownBlock ≠ v.ownBlock) (hg : Grew W W' v v') : u.ownBlock = none ∨ u.ownBlock ≠ v'.ownBlock := by
  rcases hg.2 with e | e
  · rw [e]; exact h
  · by_cases ha : u.ownBlock = none
    · exact .inl ha
    · refine .inr fun ee => ?_
      obtain ⟨k, hk⟩ := Option.ne_none_iff_exists'.1 ha
      have h1 := ho.lt k hk
      obtain ⟨g, hg1, hg2⟩ := e
      rw [ee, hg1] at hk
      injection hk with hk
      omega
theorem EncR.pushE (h : EncR w zs sv av ab ev en W) {ev' : Value} {en' : List UInt8} (ho : OwnV bv 5 w.heap.size W' ev' en') (hg : Grew W W' ev ev') : EncR w zs sv av ab ev' en' W' :=
  ⟨h.sh.kept hg.grown (row_ne h.sh h.ent (by decide)), fun z hz => (h.nm z hz).kept hg.grown (row_ne (h.nm z hz) h.ent (by decide)), h.ab.kept hg.grown h.apart, ho, grew_apart h.ab h.apart hg, hg.ext h.ext h.ent.ge⟩
theorem EncR.pushA (h : EncR w zs sv av ab ev en W) {av' : Value} {ab' : List UInt8} (ho : OwnV bv 5 w.heap.size W' av' ab') (hg : Grew W W' av av') : EncR w zs sv av' ab' ev en W' := by
  have ha := grew_apart h.ent h.ne hg
  refine ⟨h.sh.kept hg.grown (row_ne h.sh h.ab (by decide)), fun z hz => (h.nm z hz).kept hg.grown (row_ne (h.nm z hz) h.ab (by decide)), ho, h.ent.kept hg.grown h.ne, ?_, hg.ext h.ext h.ab.ge⟩
  rcases ha with e | e
  · by_cases h1 : av'.ownBlock = none
    · exact .inl h1
    · exact .inr (fun e2 => h1 (e2.trans e))
  · exact .inr (fun e2 => e e2.symm)
theorem EncR.pushS (h : EncR w zs sv av ab ev en W) {sv' : Value} {s : RSh} {y : Value} (hy : OwnV iv 3 w.heap.size W y s.names) (ho : OwnR rshCells 3 69 w.heap.size W' sv' (zs ++ [(s, y)])) (hg : Grew W W' sv sv') : EncR w (zs ++ [(s, y)]) sv' av ab ev en W' := by
  refine ⟨ho, fun z hz => ?_, h.ab.kept hg.grown (row_ne h.ab h.sh (by decide)), h.ent.kept hg.grown (row_ne h.ent h.sh (by decide)), h.apart, hg.ext h.ext h.sh.ge⟩
  rcases List.mem_append.1 hz with hz | hz
  · exact (h.nm z hz).kept hg.grown (row_ne (h.nm z hz) h.sh (by decide))
  · simp only [List.mem_singleton] at hz
    subst hz
    exact hy.kept hg.grown (row_ne hy h.sh (by decide))
end
/-- the boxes of an entry and of its shape -/
structure XB (w : World) (g9 g10 : Nat) (ec hc : Array Value) (y : Value) (nms : List Int) (W : World) : Prop where
  e : W.heap[g9]? = some (.cells ec 26 (0, 0))
  h : W.heap[g10]? = some (.cells hc 69 (0, 0))
  o : OwnV iv 3 w.heap.size W y nms
section
variable {w W W' : World} {g9 g10 : Nat} {ec hc : Array Value} {y : Value} {nms : List Int}
theorem XB.ext (h : XB w g9 g10 ec hc y nms W) (he : Ext W W') : XB w g9 g10 ec hc y nms W' := ⟨he.heap h.e, he.heap h.h, h.o.ext he⟩
theorem XB.push (h : XB w g9 g10 ec hc y nms W) {f : UInt8 → Value} {b : Nat} {u u' : Value} {l : List UInt8} (ho : OwnV f 5 b W u l) (hg : Grew W W' u u') : XB w g9 g10 ec hc y nms W' :=
  ⟨blk_grown h.e hg.grown (fun e => ho.ne_blk h.e (by decide) e.symm), blk_grown h.h hg.grown (fun e => ho.ne_blk h.h (by decide) e.symm), h.o.kept hg.grown (row_ne h.o ho (by decide))⟩
end
end Go.Proofs.Ytopanbcodfkedaa
