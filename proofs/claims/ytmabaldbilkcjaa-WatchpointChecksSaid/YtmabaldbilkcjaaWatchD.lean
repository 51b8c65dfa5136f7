/- The contract of watchpoint.Check where the two values are not alike. -/
import Derived.Test.YtmabaldbilkcjaaWatchC
import Derived.Deep.RegionHeld3
import Derived.Deep.RegionWith
namespace Go.Proofs.Ytmabaldbilkcjaa
open Go.RowKit
set_option linter.unusedVariables false

/-- a value and a bool; the value in new memory -/
def CheckPost (d : Dat) (p : Prop) (w : World) (e : Ending) (w' : World) : Prop := ∃ v r, e = .returned (.tuple #[v, .bool r]) ∧ (r = true ↔ p) ∧ OwnDat w.heap.size w' v d ∧ Ext w w'

theorem keep8 {w w' : World} {g : Nat} {a0 a1 a2 a3 b0 b1 b2 b3 : Value} {t : TypeId} (h0 : w.heap[g]? = some (.cells #[a0, a1, a2, a3] t (0, 0))) (h1 : w.heap[g + 1]? = some (.cells #[b0, b1, b2, b3] t (0, 0))) (he : Ext w w') :
    w'.cell? ⟨g, 0, none⟩ = some a0 ∧ w'.cell? ⟨g, 1, none⟩ = some a1 ∧ w'.cell? ⟨g, 2, none⟩ = some a2 ∧ w'.cell? ⟨g, 3, none⟩ = some a3 ∧
    w'.cell? ⟨g + 1, 0, none⟩ = some b0 ∧ w'.cell? ⟨g + 1, 1, none⟩ = some b1 ∧ w'.cell? ⟨g + 1, 2, none⟩ = some b2 ∧ w'.cell? ⟨g + 1, 3, none⟩ = some b3 := by
  obtain ⟨q0, q1, q2, q3, _⟩ := blk4 (he.heap h0)
  obtain ⟨r0, r1, r2, r3, _⟩ := blk4 (he.heap h1)
  exact ⟨q0, q1, q2, q3, r0, r1, r2, r3⟩

theorem keep8_far {w : World} {g : Nat} {a0 a1 a2 a3 b0 b1 b2 b3 x0 x1 x2 x3 : Value} {t : TypeId} (h0 : w.heap[g]? = some (.cells #[a0, a1, a2, a3] t (0, 0))) (h1 : w.heap[g + 1]? = some (.cells #[b0, b1, b2, b3] t (0, 0))) :
    ((((w.setCell ⟨g + 1 + 1, 0, none⟩ x0).setCell ⟨g + 1 + 1, 1, none⟩ x1).setCell ⟨g + 1 + 1, 2, none⟩ x2).setCell ⟨g + 1 + 1, 3, none⟩ x3).cell? ⟨g, 0, none⟩ = some a0 ∧
    ((((w.setCell ⟨g + 1 + 1, 0, none⟩ x0).setCell ⟨g + 1 + 1, 1, none⟩ x1).setCell ⟨g + 1 + 1, 2, none⟩ x2).setCell ⟨g + 1 + 1, 3, none⟩ x3).cell? ⟨g, 1, none⟩ = some a1 ∧
    ((((w.setCell ⟨g + 1 + 1, 0, none⟩ x0).setCell ⟨g + 1 + 1, 1, none⟩ x1).setCell ⟨g + 1 + 1, 2, none⟩ x2).setCell ⟨g + 1 + 1, 3, none⟩ x3).cell? ⟨g, 2, none⟩ = some a2 ∧
    ((((w.setCell ⟨g + 1 + 1, 0, none⟩ x0).setCell ⟨g + 1 + 1, 1, none⟩ x1).setCell ⟨g + 1 + 1, 2, none⟩ x2).setCell ⟨g + 1 + 1, 3, none⟩ x3).cell? ⟨g, 3, none⟩ = some a3 ∧
    ((((w.setCell ⟨g + 1 + 1, 0, none⟩ x0).setCell ⟨g + 1 + 1, 1, none⟩ x1).setCell ⟨g + 1 + 1, 2, none⟩ x2).setCell ⟨g + 1 + 1, 3, none⟩ x3).cell? ⟨g + 1, 0, none⟩ = some b0 ∧
    ((((w.setCell ⟨g + 1 + 1, 0, none⟩ x0).setCell ⟨g + 1 + 1, 1, none⟩ x1).setCell ⟨g + 1 + 1, 2, none⟩ x2).setCell ⟨g + 1 + 1, 3, none⟩ x3).cell? ⟨g + 1, 1, none⟩ = some b1 ∧
    ((((w.setCell ⟨g + 1 + 1, 0, none⟩ x0).setCell ⟨g + 1 + 1, 1, none⟩ x1).setCell ⟨g + 1 + 1, 2, none⟩ x2).setCell ⟨g + 1 + 1, 3, none⟩ x3).cell? ⟨g + 1, 2, none⟩ = some b2 ∧
    ((((w.setCell ⟨g + 1 + 1, 0, none⟩ x0).setCell ⟨g + 1 + 1, 1, none⟩ x1).setCell ⟨g + 1 + 1, 2, none⟩ x2).setCell ⟨g + 1 + 1, 3, none⟩ x3).cell? ⟨g + 1, 3, none⟩ = some b3 := by
  have e0 : g ≠ g + 1 + 1 := by omega
  have e1 : g + 1 ≠ g + 1 + 1 := by omega
  exact keep8 (blk_far (blk_far (blk_far (blk_far h0 e0 x0) e0 x1) e0 x2) e0 x3) (blk_far (blk_far (blk_far (blk_far h1 e1 x0) e1 x1) e1 x2) e1 x3) (Ext.refl _)

set_option maxHeartbeats 2000000 in
set_option maxRecDepth 100000 in
theorem Check_unlike (u v : Value) (a b : Dat) (w : World) (hu : DatAt w u a) (hv : DatAt w v b) (hna : ¬ alikeD a b)
    (ha1 : a.known.length ≤ 1073741824) (ha2 : a.words.length ≤ 1073741824) (hb1 : b.known.length ≤ 1073741824) (hb2 : b.words.length ≤ 1073741824) :
    Calls Try.prog 8 #[u, v] w (CheckPost b (¬ sameD a b) w) := by
  have hU := hu
  have hV := hv
  obtain ⟨x, y, rfl, ⟨A1, c1, rfl, _, _⟩, ⟨A2, c2, rfl, _, _⟩⟩ := hu
  obtain ⟨x', y', rfl, ⟨A3, c3, rfl, _, _⟩, ⟨A4, c4, rfl, _, _⟩⟩ := hv
  go_enter Try.func8, Try.ntmps8
  go_wp2_with fail
  obtain ⟨W, hW, hE, h0, h1, h2⟩ : ∃ W, Hid (W = ((w.alloc (.cells #[.int .i64 a.kind, .int .i64 a.record, .slice A1 a.known.length c1, .slice A2 a.words.length c2] 25)).alloc (.cells #[.int .i64 b.kind, .int .i64 b.record, .slice A3 b.known.length c3, .slice A4 b.words.length c4] 25)).alloc (.cells #[.int .i64 0, .int .i64 0, .slice none 0 0, .slice none 0 0] 25)) ∧ Ext w W ∧
      W.heap[w.heap.size]? = some (.cells #[.int .i64 a.kind, .int .i64 a.record, .slice A1 a.known.length c1, .slice A2 a.words.length c2] 25 (0, 0)) ∧
      W.heap[w.heap.size + 1]? = some (.cells #[.int .i64 b.kind, .int .i64 b.record, .slice A3 b.known.length c3, .slice A4 b.words.length c4] 25 (0, 0)) ∧
      W.heap[w.heap.size + 2]? = some (.cells #[.int .i64 0, .int .i64 0, .slice none 0 0, .slice none 0 0] 25 (0, 0)) := by
    refine ⟨_, Lib.hid rfl, (((Ext.refl w).alloc _).alloc _).alloc _, blk_alloc (blk_alloc (heap_alloc_new w _) _) _, blk_alloc ?_ _, ?_⟩
    · have := heap_alloc_new (w.alloc (.cells #[.int .i64 a.kind, .int .i64 a.record, .slice A1 a.known.length c1, .slice A2 a.words.length c2] 25)) (.cells #[.int .i64 b.kind, .int .i64 b.record, .slice A3 b.known.length c3, .slice A4 b.words.length c4] 25)
      simpa using this
    · have := heap_alloc_new ((w.alloc (.cells #[.int .i64 a.kind, .int .i64 a.record, .slice A1 a.known.length c1, .slice A2 a.words.length c2] 25)).alloc (.cells #[.int .i64 b.kind, .int .i64 b.record, .slice A3 b.known.length c3, .slice A4 b.words.length c4] 25)) (.cells #[.int .i64 0, .int .i64 0, .slice none 0 0, .slice none 0 0] 25)
      simpa using this
  rw [← hW.out]
  refine (alike_any _ _ a b W (hU.ext hE) (hV.ext hE)).mono ?_
  rintro e w1 ⟨r1, rfl, hr1, he1⟩
  obtain rfl : r1 = false := by
    cases r1 with
    | false => rfl
    | true => exact absurd (hr1.1 rfl) hna
  clear hr1 hna hW
  have h0' := he1.heap h0
  have h1' := he1.heap h1
  have h2' := he1.heap h2
  have hE1 := hE.trans he1
  clear h0 h1 h2 he1 hE
  have hS := keep8 h0' h1' (Ext.refl w1)
  obtain ⟨s0, s1, s2, s3, t0, t1, t2, t3⟩ := hS
  obtain ⟨p0, p1, p2, p3, f0, f1, f2, f3⟩ := blk4 h2'
  have hsz := hE1.size
  go_wp2_with fail
  go_region_held3 (fun W' => W'.cell? ⟨w.heap.size, 0, none⟩ = some (.int .i64 a.kind) ∧ W'.cell? ⟨w.heap.size, 1, none⟩ = some (.int .i64 a.record) ∧ W'.cell? ⟨w.heap.size, 2, none⟩ = some (.slice A1 a.known.length c1) ∧ W'.cell? ⟨w.heap.size, 3, none⟩ = some (.slice A2 a.words.length c2) ∧ W'.cell? ⟨w.heap.size + 1, 0, none⟩ = some (.int .i64 b.kind) ∧ W'.cell? ⟨w.heap.size + 1, 1, none⟩ = some (.int .i64 b.record) ∧ W'.cell? ⟨w.heap.size + 1, 2, none⟩ = some (.slice A3 b.known.length c3) ∧ W'.cell? ⟨w.heap.size + 1, 3, none⟩ = some (.slice A4 b.words.length c4))
    (first | with_reducible exact keep8 h0' h1' (he2.trans he3) | with_reducible exact keep8 h0' h1' he2 | with_reducible exact keep8 h0' h1' ((Ext.refl w1).drew) | with_reducible exact keep8_far ((he2.trans he3).heap h0') ((he2.trans he3).heap h1'))
    (first
      | (go_at_call 13; refine (clone_any _ b _ (hV.ext (hE1.drew)) (by omega) (by omega)).mono ?_; rintro e w2 ⟨v2, rfl, ⟨x2, y2, rfl, hx2, hy2⟩, he2⟩; replace he2 := (Ext.refl w1).drew.trans he2; obtain ⟨B1, d1, rfl, _, _⟩ := hx2.inV; obtain ⟨B2, d2, rfl, _, _⟩ := hy2.inV; obtain ⟨k0, k1, k2, k3, l0, l1, l2, l3⟩ := blk4 (he2.heap h2'))
      | (go_at_call 14; refine (Equal_any _ _ a b _ (hU.ext (hE1.trans he2)) (hV.ext (hE1.trans he2)) (by omega) (by omega) (by omega) (by omega)).mono ?_; rintro e w3 ⟨r3, rfl, hr3, he3⟩; obtain ⟨m0, m1, m2, m3, n0, n1, n2, n3⟩ := blk4 ((he2.trans he3).heap h2')))
  have hb3 := (he2.trans he3).heap h2'
  have hx3 := hx2.ext he3
  have hy3 := hy2.ext he3
  have hn1 := hx3.ne_blk hb3 (by decide)
  have hn2 := hy3.ne_blk hb3 (by decide)
  go_wp2
  refine bodyPost_ret (v := .tuple #[.agg #[.int .i64 b.kind, .int .i64 b.record, .slice B1 b.known.length d1, .slice B2 b.words.length d2], .bool (!r3)]) (by simp [results, Try.results8, go_sem, m0, m1, m2, m3]) rfl ?_
  refine ⟨_, _, rfl, ?_, ⟨_, _, rfl, ?_, ?_⟩, ?_⟩
  · cases r3 <;> simp_all
  · exact ((((hx3.set_far (p := ⟨w.heap.size + 2, 0, none⟩) hn1 _).set_far (p := ⟨w.heap.size + 2, 1, none⟩) hn1 _).set_far (p := ⟨w.heap.size + 2, 2, none⟩) hn1 _).set_far (p := ⟨w.heap.size + 2, 3, none⟩) hn1 _).low (by first | exact hE1.size | (have := hE1.size; omega))
  · exact ((((hy3.set_far (p := ⟨w.heap.size + 2, 0, none⟩) hn2 _).set_far (p := ⟨w.heap.size + 2, 1, none⟩) hn2 _).set_far (p := ⟨w.heap.size + 2, 2, none⟩) hn2 _).set_far (p := ⟨w.heap.size + 2, 3, none⟩) hn2 _).low (by first | exact hE1.size | (have := hE1.size; omega))
  · exact ((((hE1.trans (he2.trans he3)).setCell (p := ⟨w.heap.size + 2, 0, none⟩) (by simp) _).setCell (p := ⟨w.heap.size + 2, 1, none⟩) (by simp) _).setCell (p := ⟨w.heap.size + 2, 2, none⟩) (by simp) _).setCell (p := ⟨w.heap.size + 2, 3, none⟩) (by simp) _
end Go.Proofs.Ytmabaldbilkcjaa
