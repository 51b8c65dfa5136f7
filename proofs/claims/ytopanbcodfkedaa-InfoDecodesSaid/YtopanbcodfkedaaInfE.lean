/- A map from texts to numbers; the walk of info.Encode. -/
import Derived.Test.YtopanbcodfkedaaInfD
namespace Go.Proofs.Ytopanbcodfkedaa
open Go.RowKit
set_option linter.unusedVariables false
set_option linter.unusedSimpArgs false

theorem st_law : Maps.Keyed Try.prog 9 := Maps.string_keyed Try.underlying9
theorem zero_in (w : World) : (zeroValue 3).run Try.prog w = .ok (.int .i64 0) w := by go_simp
def strV (s : List UInt8) : ByteArray := ⟨s.toArray⟩
theorem key_st {s : List UInt8} (h : s.length ≤ 1000000) : keyOf Try.prog 9 (.string (strV s)) = some (.string s) := by
  have := WideMaps.keyOf_string_mk (P := Try.prog) Try.underlying9 (s := strV s) (by show s.toArray.size ≤ maxLen; simp only [List.size_toArray, maxLen]; omega)
  simpa [strV] using this
/-- a map from texts to the places at which they stand in a list, from 1 on -/
def MapS (b : Nat) (W : World) (S : List (List UInt8)) : Prop := ∃ D : DataW Value, W.ownsMap Try.prog 9 heldR b S.length D ∧ Maps.Tidy D ∧ Maps.size D = S.length ∧
  ∀ s, s.length ≤ 1000000 → Maps.has D (.string s) = decide (s ∈ S) ∧ ∀ zd, D.atKey (.string s) zd = if s ∈ S then .held (.int .i64 ((S.idxOf s : Int) + 1)) else zd
theorem MapS.made (w : World) : MapS w.heap.size (w.alloc (.map #[] 0)) [] := ⟨.map [], World.ownsMap_made w _ _ _, Maps.tidy_empty, rfl, fun s _ => ⟨by simp [Maps.has], fun zd => rfl⟩⟩
section
variable {b : Nat} {W W' : World} {S : List (List UInt8)}
theorem MapS.blk (h : MapS b W S) : b < W.heap.size := by obtain ⟨D, h1, _⟩ := h; exact h1.lt
theorem MapS.kept (h : MapS b W S) {g : Option Nat} (he : W.grownBy W' g) (hg : g ≠ some b) : MapS b W' S := by
  obtain ⟨D, h1, h2⟩ := h
  exact ⟨D, h1.kept he (fun e => hg e.symm), h2⟩
theorem MapS.ext (h : MapS b W S) (he : Ext W W') : MapS b W' S := h.kept (he.grownBy none) (by simp)
theorem MapS.at_ (h : MapS b W S) : ∃ es clock, W.heap[b]? = some (.map es clock) ∧ es.size = S.length := by
  obtain ⟨D, ⟨es, clock, hb, F, hs, hD⟩, _, hz, _⟩ := h
  refine ⟨es, clock, hb, ?_⟩
  rw [hD] at hz
  have : (List.foldr DataW.insert [] (es.toList.map (WideElems.rg Try.prog 9 heldR))).length = S.length := hz
  rw [length_sorted] at this
  simpa using this
theorem MapS.len (h : MapS b W S) : (Builtin.len_ #[61] 3 #[.map (some b)]).run Try.prog W = .ok (.int .i64 (S.length : Int)) W := by
  obtain ⟨D, h1, _, h3, _⟩ := h
  have := h1.len Try.underlying61 3
  rw [h3] at this
  exact this
set_option maxRecDepth 100000 in
theorem MapS.look (h : MapS b W S) {s : List UInt8} (h1 : s.length ≤ 1000000) :
    (Instr.lookup 61 (.map (some b)) (.string (strV s)) true).run Try.prog W = .ok (.tuple #[.int .i64 (if s ∈ S then (S.idxOf s : Int) + 1 else 0), .bool (decide (s ∈ S))]) W := by
  obtain ⟨D, ⟨es, clock, hb, F, _, hD⟩, _, _, hat⟩ := h
  have hat' := (hat s h1).2
  rw [hD] at hat'
  rcases Maps.fit_look (t := 61) (e := 3) true st_law Try.underlying61 (zero_in W) hb F (key_st h1) with ⟨hr, _, hz⟩ | ⟨e0, y, _, _, hr, hy, hz, _⟩
  · rw [hr]
    by_cases hE : s ∈ S
    · have := (hz .nil).symm.trans (hat' .nil)
      rw [if_pos hE] at this
      cases this
    · simp [hE]
  · rw [hr]
    have hy' : y = (.held e0.val, []) := by unfold heldR at hy; injection hy with hy; exact hy.symm
    by_cases hE : s ∈ S
    · have := (hz .nil).symm.trans (hat' .nil)
      rw [if_pos hE, hy'] at this
      simp only [DataW.held.injEq] at this
      simp [hE, this]
    · have := (hz .nil).symm.trans (hat' .nil)
      rw [if_neg hE, hy'] at this
      cases this
set_option maxRecDepth 100000 in
theorem MapS.put (h : MapS b W S) {s : List UInt8} (h1 : s.length ≤ 1000000) (hS : S.length ≤ 1000000) (hn : s ∉ S) :
    ∃ W2, (Instr.mapUpdate 61 (.map (some b)) (.string (strV s)) (.int .i64 ((S.length : Int) + 1))).run Try.prog W = .ok () W2 ∧ MapS b W2 (S ++ [s]) ∧ W.grownBy W2 (some b) := by
  obtain ⟨D, hM, hI, hz, hat⟩ := h
  obtain ⟨W2, hr, h4, h5⟩ := hM.update (t := 61) (e := 3) st_law Try.underlying61 (by simp only [maxLen]; omega) (key_st h1) (d := .held (.int .i64 ((S.length : Int) + 1))) (ps := []) rfl
  have hk := st_law.key (key_st h1)
  refine ⟨W2, hr, ⟨_, by rw [List.length_append]; exact h4, hI.put hk _, ?_, fun x hx => ?_⟩, h5⟩
  · rw [Maps.size_put hI, (hat s h1).1]
    simp [hn, hz]
  · by_cases hxs : x = s
    · subst hxs
      refine ⟨by rw [Maps.has_put_same hI.isMap hk]; simp, fun zd => ?_⟩
      rw [Maps.atKey_put_same hI.isMap hk]
      simp [List.idxOf_append, hn]
    · have hne : (Lit.string x) ≠ .string s := fun e => hxs (by injection e)
      have hm : x ∈ S ++ [s] ↔ x ∈ S := by simp [hxs]
      refine ⟨by rw [Maps.has_put_other hne, (hat x hx).1]; simp [hxs], fun zd => ?_⟩
      rw [Maps.atKey_put_other hne, (hat x hx).2]
      by_cases hxS : x ∈ S
      · rw [if_pos hxS, if_pos (hm.2 hxS), List.idxOf_append, if_pos hxS]
      · rw [if_neg hxS, if_neg (fun h => hxS (hm.1 h))]
theorem MapS.ne_own {α : Type} {f : α → Value} {e : TypeId} {base : Nat} {v : Value} {l : List α} (h : MapS b W S) (ho : OwnV f e base W v l) : v.ownBlock ≠ some b := fun ee => by
  obtain ⟨es, clock, hb, _⟩ := h.at_
  rcases ho.2 with ⟨rfl, _⟩ | ⟨g', cap, cur, rfl, _, hg, _⟩
  · cases ee
  · have : g' = b := by simpa [Value.ownBlock] using ee
    subst this
    rw [hb] at hg
    injection hg with hg
    cases hg
theorem MapS.ne_blk (h : MapS b W S) {g : Nat} {cs : Array Value} {t : TypeId} {fr : Nat × Nat} (hg : W.heap[g]? = some (.cells cs t fr)) : b ≠ g := by
  rintro rfl
  obtain ⟨es, clock, hb, _⟩ := h.at_
  rw [hb] at hg
  injection hg with hg
  cases hg
end
/-- what Encode has made: shapes, their numbers, bytes -/
structure Enc (w : World) (b : Nat) (S : List (List UInt8)) (av ev : Value) (en : List UInt8) (W : World) : Prop where
  ab : OwnV bv 5 w.heap.size W av S.flatten
  ent : OwnV bv 5 w.heap.size W ev en
  apart : av.ownBlock = none ∨ av.ownBlock ≠ ev.ownBlock
  map : MapS b W S
  ext : Ext w W
  low : w.heap.size ≤ b
section
variable {w W W' : World} {b : Nat} {S : List (List UInt8)} {av ev : Value} {en : List UInt8}
theorem Enc.size (h : Enc w b S av ev en W) : w.heap.size ≤ W.heap.size := h.ext.size
theorem Enc.aside (h : Enc w b S av ev en W) (he : Ext W W') : Enc w b S av ev en W' := ⟨h.ab.ext he, h.ent.ext he, h.apart, h.map.ext he, h.ext.trans he, h.low⟩
theorem Enc.push (h : Enc w b S av ev en W) {ev' : Value} {en' : List UInt8} (ho : OwnV bv 5 w.heap.size W' ev' en') (hg : Grew W W' ev ev') : Enc w b S av ev' en' W' := by
  refine ⟨h.ab.kept hg.grown h.apart, ho, ?_, h.map.kept hg.grown (h.map.ne_own h.ent), hg.ext h.ext h.ent.ge, h.low⟩
  rcases hg.2 with e | e
  · rw [e]; exact h.apart
  · by_cases ha : av.ownBlock = none
    · exact .inl ha
    · refine .inr fun ee => ?_
      obtain ⟨k, hk⟩ := Option.ne_none_iff_exists'.1 ha
      have h1 := h.ab.lt k hk
      obtain ⟨g, hg1, hg2⟩ := e
      rw [ee, hg1] at hk
      injection hk with hk
      omega
/-- a new shape: the map has it, its bytes are appended -/
theorem Enc.shape (h : Enc w b S av ev en W) {W2 W3 : World} {s : List UInt8} {av' : Value} (hM : MapS b W2 (S ++ [s])) (hg : W.grownBy W2 (some b)) (ho : OwnV bv 5 w.heap.size W3 av' (S.flatten ++ s)) (hgr : Grew W2 W3 av av') : Enc w b (S ++ [s]) av' ev en W3 := by
  have ha := h.ab.kept hg (.inr (h.map.ne_own h.ab))
  have he := h.ent.kept hg (.inr (h.map.ne_own h.ent))
  have hx := h.ext.grown hg (fun k e => by cases e; exact h.low)
  have hap : ev.ownBlock = none ∨ ev.ownBlock ≠ av.ownBlock := by
    rcases h.apart with e | e
    · by_cases h1 : ev.ownBlock = none
      · exact .inl h1
      · exact .inr (fun e2 => h1 (e2.trans e))
    · exact .inr (fun e2 => e e2.symm)
  refine ⟨by simpa using ho, he.kept hgr.grown hap, ?_, hM.kept hgr.grown (hM.ne_own ha), hgr.ext hx ha.ge, h.low⟩
  rcases hgr.2 with e | e
  · rw [e]; exact h.apart
  · refine .inr fun ee => ?_
    obtain ⟨g, hg1, hg2⟩ := e
    have h1 := he.lt g (by rw [← ee]; exact hg1)
    omega
theorem Enc.put (h : Enc w b S av ev en W) {W2 : World} {s : List UInt8} (hM : MapS b W2 (S ++ [s])) (hg : W.grownBy W2 (some b)) : OwnV bv 5 w.heap.size W2 av S.flatten ∧ w.heap.size ≤ W2.heap.size :=
  ⟨h.ab.kept hg (.inr (h.map.ne_own h.ab)), Nat.le_trans h.size hg.size⟩
end
end Go.Proofs.Ytopanbcodfkedaa
