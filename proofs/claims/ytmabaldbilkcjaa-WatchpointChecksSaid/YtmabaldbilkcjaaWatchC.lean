/- Contracts of watchpoint.alike and watchpoint.clone. -/
import Derived.Test.YtmabaldbilkcjaaWatchB
import Derived.Test.YtmabaldbilkcjaaBase2
namespace Go.Proofs.Ytmabaldbilkcjaa
open Go.RowKit
set_option linter.unusedVariables false

theorem elem_bool : Elem1 Try.prog 22 4 1 := by
  have h : (Try.prog.info? 4).map (fun i => (i.zero, i.size, i.bytes)) = some (some (.bool false), 1, 1) := by kernel_rfl
  obtain ⟨i0, hi, hz0, hz1, hz2⟩ := info_parts h
  exact ⟨Try.underlying22, i0, _, hi, hz0, hz1, hz2, rfl⟩
theorem elem_int : Elem1 Try.prog 23 3 8 := by
  have h : (Try.prog.info? 3).map (fun i => (i.zero, i.size, i.bytes)) = some (some (.int .i64 0), 1, 8) := by kernel_rfl
  obtain ⟨i0, hi, hz0, hz1, hz2⟩ := info_parts h
  exact ⟨Try.underlying23, i0, _, hi, hz0, hz1, hz2, rfl⟩

def alikeD (a b : Dat) : Prop := a.kind = b.kind ∧ a.record = b.record ∧ a.words.length = b.words.length ∧ a.known.length = b.known.length ∧ a.known.length = a.words.length

set_option maxRecDepth 100000 in
theorem alike_any (u v : Value) (a b : Dat) (w : World) (hu : DatAt w u a) (hv : DatAt w v b) : Calls Try.prog 12 #[u, v] w (Tells (alikeD a b) w) := by
  obtain ⟨x, y, rfl, ⟨A1, c1, rfl, _, _⟩, ⟨A2, c2, rfl, _, _⟩⟩ := hu
  obtain ⟨x', y', rfl, ⟨A3, c3, rfl, _, _⟩, ⟨A4, c4, rfl, _, _⟩⟩ := hv
  by_cases h1 : a.kind = b.kind
  · have e1 : (a.kind != b.kind) = false := by simp [h1]
    have H1 := Lib.hid h1
    clear h1
    by_cases h2 : a.record = b.record
    · have e2 : (a.record != b.record) = false := by simp [h2]
      have H2 := Lib.hid h2
      clear h2
      by_cases h4 : a.words.length = b.words.length
      · have e4 : ((a.words.length : Int) != (b.words.length : Int)) = false := by simp [h4]
        have H4 := Lib.hid h4
        clear h4
        by_cases h3 : a.known.length = b.known.length
        · have e3 : ((a.known.length : Int) != (b.known.length : Int)) = false := by simp [h3]
          have H3 := Lib.hid h3
          clear h3
          by_cases h5 : a.known.length = a.words.length
          · have e5 : ((a.known.length : Int) == (a.words.length : Int)) = true := by simp [h5]
            have H5 := Lib.hid h5
            clear h5
            go_enter Try.func12, Try.ntmps12
            go_wp2
            go_ret
            exact Tells.yes ⟨H1.out, H2.out, H4.out, H3.out, H5.out⟩ (((Ext.refl w).alloc _).alloc _)
          · have e5 : ((a.known.length : Int) == (a.words.length : Int)) = false := by simp; omega
            go_enter Try.func12, Try.ntmps12
            go_wp2
            go_ret
            exact Tells.no (fun h => absurd h.2.2.2.2 h5) (((Ext.refl w).alloc _).alloc _)
        · have e3 : ((a.known.length : Int) != (b.known.length : Int)) = true := by simp; omega
          go_enter Try.func12, Try.ntmps12
          go_wp2
          go_ret
          exact Tells.no (fun h => absurd h.2.2.2.1 h3) (((Ext.refl w).alloc _).alloc _)
      · have e4 : ((a.words.length : Int) != (b.words.length : Int)) = true := by simp; omega
        go_enter Try.func12, Try.ntmps12
        go_wp2
        go_ret
        exact Tells.no (fun h => absurd h.2.2.1 h4) (((Ext.refl w).alloc _).alloc _)
    · have e2 : (a.record != b.record) = true := by simpa using h2
      have H2 := Lib.hid h2
      clear h2
      go_enter Try.func12, Try.ntmps12
      go_wp2
      go_ret
      exact Tells.no (fun h => absurd h.2.1 H2.out) (((Ext.refl w).alloc _).alloc _)
  · have e1 : (a.kind != b.kind) = true := by simpa using h1
    have H1 := Lib.hid h1
    clear h1
    go_enter Try.func12, Try.ntmps12
    go_wp2
    go_ret
    exact Tells.no (fun h => absurd h.1 H1.out) (((Ext.refl w).alloc _).alloc _)

/-- a value in new memory -/
def OwnDat (base : Nat) (w : World) (v : Value) (d : Dat) : Prop := ∃ x y, v = .agg #[.int .i64 d.kind, .int .i64 d.record, x, y] ∧ OwnV Value.bool 4 base w x d.known ∧ OwnV iv 3 base w y d.words
theorem OwnDat.at_ {base : Nat} {w : World} {v : Value} {d : Dat} (h : OwnDat base w v d) : DatAt w v d := by
  obtain ⟨x, y, rfl, hx, hy⟩ := h
  exact ⟨x, y, rfl, hx.inV, hy.inV⟩
def ClonePost (d : Dat) (w : World) (e : Ending) (w' : World) : Prop := ∃ v, e = .returned v ∧ OwnDat w.heap.size w' v d ∧ Ext w w'

set_option maxRecDepth 100000 in
theorem clone_any (u : Value) (a : Dat) (w : World) (hu : DatAt w u a) (h1 : a.known.length ≤ 1073741824) (h2 : a.words.length ≤ 1073741824) :
    Calls Try.prog 13 #[u] w (ClonePost a w) := by
  obtain ⟨x, y, rfl, hx, hy⟩ := hu
  have hX := hx
  have hY := hy
  obtain ⟨A1, c1, rfl, _, _⟩ := hx
  obtain ⟨A2, c2, rfl, _, _⟩ := hy
  go_enter Try.func13, Try.ntmps13
  go_wp2_with (at_builtin; go_must (refine wpList_appendV elem_bool (fun _ => rfl) rfl (.const (.slice none 0 0)) (.tmp 4) rfl w.heap.size _ [] rfl (OwnV.nil _) _ a.known rfl (hX.ext (((Ext.refl w).alloc _).alloc _)) (by simp; omega) (by omega) (by simp; omega) (Hold.out ?_)))
  refine Hold.mk fun v1 w1 ho1 hg1 => ?_
  have hE1 := hg1.ext (Ext.refl _) (fun k hk => by cases hk)
  have hb0 : w1.heap[w.heap.size]? = some (.cells #[.int .i64 a.kind, .int .i64 a.record, .slice A1 a.known.length c1, .slice A2 a.words.length c2] 25 (0, 0)) := hE1.heap (blk_alloc (heap_alloc_new w _) _)
  have hb1 : w1.heap[w.heap.size + 1]? = some (.cells #[.int .i64 0, .int .i64 0, .slice none 0 0, .slice none 0 0] 25 (0, 0)) := hE1.heap (by have := heap_alloc_new (w.alloc (.cells #[.int .i64 a.kind, .int .i64 a.record, .slice A1 a.known.length c1, .slice A2 a.words.length c2] 25)) (.cells #[.int .i64 0, .int .i64 0, .slice none 0 0, .slice none 0 0] 25); simpa using this)
  have he1 : Ext w w1 := (((Ext.refl w).alloc _).alloc _).trans hE1
  obtain ⟨B1, d1, rfl, _, _⟩ := ho1.inV
  clear hg1 hE1
  obtain ⟨q0, q1, q2, q3, f0, f1, f2, f3⟩ := blk4 hb0
  have hne0 := ho1.ne_blk hb0 (by decide)
  have hb0' := blk_set hb0 2 (.slice B1 a.known.length d1)
  have hb1' := blk_far hb1 (p := ⟨w.heap.size, 2, none⟩) (by simp) (.slice B1 a.known.length d1)
  have ho1' := ho1.set_far (p := ⟨w.heap.size, 2, none⟩) hne0 (.slice B1 a.known.length d1)
  have he1' : Ext w (w1.setCell ⟨w.heap.size, 2, none⟩ (.slice B1 a.known.length d1)) := he1.setCell (Nat.le_refl _) _
  go_wp2_with (at_builtin; go_must (refine wpList_appendV elem_int (fun _ => rfl) rfl (.const (.slice none 0 0)) (.tmp 8) rfl w.heap.size _ [] rfl (OwnV.nil _) _ a.words rfl (hY.ext he1') (by simp; omega) (by omega) he1'.size (Hold.out ?_)))
  refine Hold.mk fun v2 w2 ho2 hg2 => ?_
  have hE2 := hg2.ext (Ext.refl _) (fun k hk => by cases hk)
  have hb2 : w2.heap[w.heap.size]? = some (.cells #[.int .i64 a.kind, .int .i64 a.record, .slice B1 a.known.length d1, .slice A2 a.words.length c2] 25 (0, 0)) := hE2.heap hb0'
  have hb3 : w2.heap[w.heap.size + 1]? = some (.cells #[.int .i64 0, .int .i64 0, .slice none 0 0, .slice none 0 0] 25 (0, 0)) := hE2.heap hb1'
  have he2 := he1'.trans hE2
  have ho3 := ho1'.ext hE2
  obtain ⟨B2, d2, rfl, _, _⟩ := ho2.inV
  clear hg2 hE2 hb0' hb1' he1' ho1' hb0 hb1 he1 ho1 hne0 q0 q1 q2 q3 f0 f1 f2 f3
  obtain ⟨q0, q1, q2, q3, f0, f1, f2, f3⟩ := blk4 hb2
  obtain ⟨r0, r1, r2, r3, g0, g1, g2, g3⟩ := blk4 hb3
  have hne2 := ho2.ne_blk hb2 (by decide)
  have hne3 := ho2.ne_blk hb3 (by decide)
  have hne4 := ho3.ne_blk hb2 (by decide)
  have hne5 := ho3.ne_blk hb3 (by decide)
  go_wp2
  refine bodyPost_ret (v := .agg #[.int .i64 a.kind, .int .i64 a.record, .slice B1 a.known.length d1, .slice B2 a.words.length d2]) (by simp [results, Try.results13, go_sem, r0, r1, r2, r3]) rfl ?_
  refine ⟨_, rfl, ⟨_, _, rfl, ?_, ?_⟩, ?_⟩
  · exact ((((ho3.set_far hne4 _).set_far hne5 _).set_far hne5 _).set_far hne5 _).set_far hne5 _
  · exact ((((ho2.set_far hne2 _).set_far hne3 _).set_far hne3 _).set_far hne3 _).set_far hne3 _
  · exact ((((he2.setCell (Nat.le_refl _) _).setCell (Nat.le_succ _) _).setCell (Nat.le_succ _) _).setCell (Nat.le_succ _) _).setCell (Nat.le_succ _) _
end Go.Proofs.Ytmabaldbilkcjaa
