/- Commands: how they are decoded, by the program and by the reference; the sanity check. -/
import Derived.Test.YtoeibcpjmoekpaaMsgP
namespace Go.Proofs.Ytoeibcpjmoekpaa
open Go.RowKit
set_option linter.unusedVariables false

set_option maxRecDepth 100000 in
theorem bytesEqual_any (x y : Value) (l m : List UInt8) (w : World) (hx : InB w x l) (hy : InB w y m) :
    Calls Try.prog 42 #[x, y] w (Tells (l = m) w) := by
  have kx := hx.str Try.underlying22 Try.underlying5 Try.underlying9
  have ky := hy.str Try.underlying22 Try.underlying5 Try.underlying9
  obtain ⟨A, c, rfl, _, _⟩ := id hx
  obtain ⟨B, d, rfl, _, _⟩ := id hy
  go_enter Try.func42, Try.ntmps42
  go_wp2_with fail
  go_ret
  exact ⟨l == m, rfl, by simp, Ext.refl _⟩

def DecCPost (b : List UInt8) (w : World) (e : Ending) (w' : World) : Prop := ∃ v c er, e = .returned (.tuple #[v, .int .i64 er]) ∧ DecCIs b c er ∧ CmdOwn w.heap.size w' v c ∧ Ext w w'
theorem four_list {l : List Int} (h : (l.length : Int) = 4) : ∃ a b c d, l = [a, b, c, d] := by
  match l, h with
  | [a, b, c, d], _ => exact ⟨a, b, c, d, rfl⟩
theorem gset2 {a b : World} {g : Nat} (h : a.grownBy b (some g)) (j : Nat) (u : Value) : a.grownBy (b.setCell ⟨g, j, none⟩ u) (some g) := gtrans h (gset b ⟨g, j, none⟩ u)
/-- a struct of five cells is stored -/
theorem store5 {W : World} {g : Nat} {z0 z1 z2 z3 z4 : Value} {t : TypeId} (h : W.heap[g]? = some (.cells #[z0, z1, z2, z3, z4] t (0, 0))) (a b c d e : Value) :
    ∃ W', (((((W.setCell ⟨g, 0, none⟩ a).setCell ⟨g, 1, none⟩ b).setCell ⟨g, 2, none⟩ c).setCell ⟨g, 3, none⟩ d).setCell ⟨g, 4, none⟩ e) = W' ∧ W'.heap[g]? = some (.cells #[a, b, c, d, e] t (0, 0)) ∧ W.grownBy W' (some g) := by
  refine ⟨_, rfl, ?_, gset2 (gset2 (gset2 (gset2 (gset _ _ _) _ _) _ _) _ _) _ _⟩
  have h0 := blk_set h 0 a
  have h1 := blk_set h0 1 b
  have h2 := blk_set h1 2 c
  have h3 := blk_set h2 3 d
  exact blk_set h3 4 e
theorem dec_read {b : List UInt8} {l2 l5 : List Int} {st2 st5 : Option Int} {c : Cmd} (h2 : ListIs ((some 0).bind (exR b 4)) l2 st2) (h5 : ListIs (st2.bind (listR b 128)) l5 st5) (hc : c.Enc b) : l2 = c.head ∧ l5 = c.words ∧ st5 = some (b.length : Int) := by
  obtain ⟨e1, _, e2⟩ := encC_read hc
  simp only [Option.bind_some] at h2
  rw [e1] at h2
  rcases h2 with ⟨q, h2, rfl⟩ | ⟨h2, _⟩
  · simp only [Option.some.injEq, Prod.mk.injEq] at h2
    obtain ⟨rfl, rfl⟩ := h2
    simp only [Option.bind_some] at h5
    rw [e2] at h5
    rcases h5 with ⟨q, h5, rfl⟩ | ⟨h5, _⟩
    · simp only [Option.some.injEq, Prod.mk.injEq] at h5
      obtain ⟨rfl, rfl⟩ := h5
      exact ⟨rfl, rfl, rfl⟩
    · cases h5
  · cases h2
set_option maxHeartbeats 4000000 in
set_option maxRecDepth 100000 in
theorem DecodeCommand_any (y : Value) (b : List UInt8) (w : World) (hy : InB w y b) (hl : b.length ≤ 100000) :
    Calls Try.prog 20 #[y] w (DecCPost b w) := by
  obtain ⟨A, c, rfl, _, _⟩ := id hy
  go_enter Try.func20, Try.ntmps20
  go_upto_region 2 with fail
  obtain ⟨W, hW, hE, hB, hR⟩ : ∃ W, W = (w.alloc (.cells #[.int .i64 0, .int .i64 0, .int .i64 0, .int .i64 0, .slice none 0 0] 28)).alloc (.cells #[.slice A b.length c, .int .i64 0, .bool false] 76) ∧ Ext w W ∧ W.heap[w.heap.size]? = some (.cells #[.int .i64 0, .int .i64 0, .int .i64 0, .int .i64 0, .slice none 0 0] 28 (0, 0)) ∧ W.heap[w.heap.size + 1]? = some (.cells #[.slice A b.length c, .int .i64 0, .bool false] 76 (0, 0)) := ⟨_, rfl, ((Ext.refl w).alloc _).alloc _, ((Ext.refl _).alloc _).heap (heap_alloc_new w _), by have := heap_alloc_new (w.alloc (.cells #[.int .i64 0, .int .i64 0, .int .i64 0, .int .i64 0, .slice none 0 0] 28)) (.cells #[.slice A b.length c, .int .i64 0, .bool false] 76); simpa using this⟩
  rw [← hW]
  clear hW
  have hS : RS 76 w W (w.heap.size + 1) (.slice A b.length c) b (some 0) := ⟨hy, hE, by omega, 0, false, hR, rfl⟩
  go_wp2_with fail
  refine (rdExactly_any w W (w.heap.size + 1) _ b (some 0) 4 (by omega) hS (by omega)).mono ?_
  rintro e w2 ⟨z, l, st2, rfl, ho2, hS2, hI2, hl2, hok2, hg2⟩
  obtain ⟨a0, a1, a2, a3, rfl⟩ := four_list hl2
  obtain ⟨gz, cz, rfl, hgz, _⟩ := ho2.form (by simp)
  have hB2 := blk_grown hB hg2 (by simp)
  have hE2 : Ext w w2 := hS2.ext
  have HI2 := Lib.hid hI2
  clear hI2 hl2 hS hR hB
  go_wp2_with fail
  refine wp_region_X #[true, true, true, true, true, true, true, true, true, true, true, true, true, true, false] 14 1 (by kernel_rfl) rfl ?_
  refine wpX_f 13 (.cells #[.int .i64 0, .int .i64 0, .int .i64 0, .int .i64 0, .slice none 0 0] 28 (0, 0)) rfl rfl (by kernel_rfl) (by kernel_rfl) (by kernel_rfl) (fun _ _ _ _ h => h) rfl (fun a w => by go_simp) (w2.heap.size) (Nat.le_refl _) (by kernel_rfl) ?_
  refine wpX_v 0 (.slice (some ⟨gz, 0, none⟩) 4 cz) rfl rfl (by kernel_rfl) (by kernel_rfl) (by kernel_rfl) (fun _ _ _ _ h => h) (by kernel_rfl) rfl (by rfl) (fun W' hW => by
    obtain ⟨x0, _⟩ := (ho2.ext (((Ext.refl w2).drew).trans hW)).at_ rfl 0 (by simp)
    obtain ⟨x1, _⟩ := (ho2.ext (((Ext.refl w2).drew).trans hW)).at_ rfl 1 (by simp)
    obtain ⟨x2, _⟩ := (ho2.ext (((Ext.refl w2).drew).trans hW)).at_ rfl 2 (by simp)
    obtain ⟨x3, _⟩ := (ho2.ext (((Ext.refl w2).drew).trans hW)).at_ rfl 3 (by simp)
    simp only [iv, List.getElem_cons_zero, List.getElem_cons_succ] at x0 x1 x2 x3
    go_simp) ?_
  simp only [List.setIfInBounds_toArray, List.set_cons_zero, List.set_cons_succ]
  refine wpX_v 1 (.pointer (some ⟨gz, 0, none⟩)) rfl rfl (by kernel_rfl) (by kernel_rfl) (by kernel_rfl) (fun _ _ _ _ h => h) (by kernel_rfl) rfl (by rfl) (fun W' hW => by
    obtain ⟨x0, _⟩ := (ho2.ext (((Ext.refl w2).drew).trans hW)).at_ rfl 0 (by simp)
    obtain ⟨x1, _⟩ := (ho2.ext (((Ext.refl w2).drew).trans hW)).at_ rfl 1 (by simp)
    obtain ⟨x2, _⟩ := (ho2.ext (((Ext.refl w2).drew).trans hW)).at_ rfl 2 (by simp)
    obtain ⟨x3, _⟩ := (ho2.ext (((Ext.refl w2).drew).trans hW)).at_ rfl 3 (by simp)
    simp only [iv, List.getElem_cons_zero, List.getElem_cons_succ] at x0 x1 x2 x3
    go_simp) ?_
  simp only [List.setIfInBounds_toArray, List.set_cons_zero, List.set_cons_succ]
  refine wpX_v 2 (.int .i64 a0) rfl rfl (by kernel_rfl) (by kernel_rfl) (by kernel_rfl) (fun _ _ _ _ h => h) (by kernel_rfl) rfl (by rfl) (fun W' hW => by
    obtain ⟨x0, _⟩ := (ho2.ext (((Ext.refl w2).drew).trans hW)).at_ rfl 0 (by simp)
    obtain ⟨x1, _⟩ := (ho2.ext (((Ext.refl w2).drew).trans hW)).at_ rfl 1 (by simp)
    obtain ⟨x2, _⟩ := (ho2.ext (((Ext.refl w2).drew).trans hW)).at_ rfl 2 (by simp)
    obtain ⟨x3, _⟩ := (ho2.ext (((Ext.refl w2).drew).trans hW)).at_ rfl 3 (by simp)
    simp only [iv, List.getElem_cons_zero, List.getElem_cons_succ] at x0 x1 x2 x3
    go_simp) ?_
  simp only [List.setIfInBounds_toArray, List.set_cons_zero, List.set_cons_succ]
  refine wpX_v 3 (.slice (some ⟨gz, 0, none⟩) 4 cz) rfl rfl (by kernel_rfl) (by kernel_rfl) (by kernel_rfl) (fun _ _ _ _ h => h) (by kernel_rfl) rfl (by rfl) (fun W' hW => by
    obtain ⟨x0, _⟩ := (ho2.ext (((Ext.refl w2).drew).trans hW)).at_ rfl 0 (by simp)
    obtain ⟨x1, _⟩ := (ho2.ext (((Ext.refl w2).drew).trans hW)).at_ rfl 1 (by simp)
    obtain ⟨x2, _⟩ := (ho2.ext (((Ext.refl w2).drew).trans hW)).at_ rfl 2 (by simp)
    obtain ⟨x3, _⟩ := (ho2.ext (((Ext.refl w2).drew).trans hW)).at_ rfl 3 (by simp)
    simp only [iv, List.getElem_cons_zero, List.getElem_cons_succ] at x0 x1 x2 x3
    go_simp) ?_
  simp only [List.setIfInBounds_toArray, List.set_cons_zero, List.set_cons_succ]
  refine wpX_v 4 (.pointer (some ⟨gz, 1, none⟩)) rfl rfl (by kernel_rfl) (by kernel_rfl) (by kernel_rfl) (fun _ _ _ _ h => h) (by kernel_rfl) rfl (by rfl) (fun W' hW => by
    obtain ⟨x0, _⟩ := (ho2.ext (((Ext.refl w2).drew).trans hW)).at_ rfl 0 (by simp)
    obtain ⟨x1, _⟩ := (ho2.ext (((Ext.refl w2).drew).trans hW)).at_ rfl 1 (by simp)
    obtain ⟨x2, _⟩ := (ho2.ext (((Ext.refl w2).drew).trans hW)).at_ rfl 2 (by simp)
    obtain ⟨x3, _⟩ := (ho2.ext (((Ext.refl w2).drew).trans hW)).at_ rfl 3 (by simp)
    simp only [iv, List.getElem_cons_zero, List.getElem_cons_succ] at x0 x1 x2 x3
    go_simp) ?_
  simp only [List.setIfInBounds_toArray, List.set_cons_zero, List.set_cons_succ]
  refine wpX_v 5 (.int .i64 a1) rfl rfl (by kernel_rfl) (by kernel_rfl) (by kernel_rfl) (fun _ _ _ _ h => h) (by kernel_rfl) rfl (by rfl) (fun W' hW => by
    obtain ⟨x0, _⟩ := (ho2.ext (((Ext.refl w2).drew).trans hW)).at_ rfl 0 (by simp)
    obtain ⟨x1, _⟩ := (ho2.ext (((Ext.refl w2).drew).trans hW)).at_ rfl 1 (by simp)
    obtain ⟨x2, _⟩ := (ho2.ext (((Ext.refl w2).drew).trans hW)).at_ rfl 2 (by simp)
    obtain ⟨x3, _⟩ := (ho2.ext (((Ext.refl w2).drew).trans hW)).at_ rfl 3 (by simp)
    simp only [iv, List.getElem_cons_zero, List.getElem_cons_succ] at x0 x1 x2 x3
    go_simp) ?_
  simp only [List.setIfInBounds_toArray, List.set_cons_zero, List.set_cons_succ]
  refine wpX_v 6 (.slice (some ⟨gz, 0, none⟩) 4 cz) rfl rfl (by kernel_rfl) (by kernel_rfl) (by kernel_rfl) (fun _ _ _ _ h => h) (by kernel_rfl) rfl (by rfl) (fun W' hW => by
    obtain ⟨x0, _⟩ := (ho2.ext (((Ext.refl w2).drew).trans hW)).at_ rfl 0 (by simp)
    obtain ⟨x1, _⟩ := (ho2.ext (((Ext.refl w2).drew).trans hW)).at_ rfl 1 (by simp)
    obtain ⟨x2, _⟩ := (ho2.ext (((Ext.refl w2).drew).trans hW)).at_ rfl 2 (by simp)
    obtain ⟨x3, _⟩ := (ho2.ext (((Ext.refl w2).drew).trans hW)).at_ rfl 3 (by simp)
    simp only [iv, List.getElem_cons_zero, List.getElem_cons_succ] at x0 x1 x2 x3
    go_simp) ?_
  simp only [List.setIfInBounds_toArray, List.set_cons_zero, List.set_cons_succ]
  refine wpX_v 7 (.pointer (some ⟨gz, 2, none⟩)) rfl rfl (by kernel_rfl) (by kernel_rfl) (by kernel_rfl) (fun _ _ _ _ h => h) (by kernel_rfl) rfl (by rfl) (fun W' hW => by
    obtain ⟨x0, _⟩ := (ho2.ext (((Ext.refl w2).drew).trans hW)).at_ rfl 0 (by simp)
    obtain ⟨x1, _⟩ := (ho2.ext (((Ext.refl w2).drew).trans hW)).at_ rfl 1 (by simp)
    obtain ⟨x2, _⟩ := (ho2.ext (((Ext.refl w2).drew).trans hW)).at_ rfl 2 (by simp)
    obtain ⟨x3, _⟩ := (ho2.ext (((Ext.refl w2).drew).trans hW)).at_ rfl 3 (by simp)
    simp only [iv, List.getElem_cons_zero, List.getElem_cons_succ] at x0 x1 x2 x3
    go_simp) ?_
  simp only [List.setIfInBounds_toArray, List.set_cons_zero, List.set_cons_succ]
  refine wpX_v 8 (.int .i64 a2) rfl rfl (by kernel_rfl) (by kernel_rfl) (by kernel_rfl) (fun _ _ _ _ h => h) (by kernel_rfl) rfl (by rfl) (fun W' hW => by
    obtain ⟨x0, _⟩ := (ho2.ext (((Ext.refl w2).drew).trans hW)).at_ rfl 0 (by simp)
    obtain ⟨x1, _⟩ := (ho2.ext (((Ext.refl w2).drew).trans hW)).at_ rfl 1 (by simp)
    obtain ⟨x2, _⟩ := (ho2.ext (((Ext.refl w2).drew).trans hW)).at_ rfl 2 (by simp)
    obtain ⟨x3, _⟩ := (ho2.ext (((Ext.refl w2).drew).trans hW)).at_ rfl 3 (by simp)
    simp only [iv, List.getElem_cons_zero, List.getElem_cons_succ] at x0 x1 x2 x3
    go_simp) ?_
  simp only [List.setIfInBounds_toArray, List.set_cons_zero, List.set_cons_succ]
  refine wpX_v 9 (.slice (some ⟨gz, 0, none⟩) 4 cz) rfl rfl (by kernel_rfl) (by kernel_rfl) (by kernel_rfl) (fun _ _ _ _ h => h) (by kernel_rfl) rfl (by rfl) (fun W' hW => by
    obtain ⟨x0, _⟩ := (ho2.ext (((Ext.refl w2).drew).trans hW)).at_ rfl 0 (by simp)
    obtain ⟨x1, _⟩ := (ho2.ext (((Ext.refl w2).drew).trans hW)).at_ rfl 1 (by simp)
    obtain ⟨x2, _⟩ := (ho2.ext (((Ext.refl w2).drew).trans hW)).at_ rfl 2 (by simp)
    obtain ⟨x3, _⟩ := (ho2.ext (((Ext.refl w2).drew).trans hW)).at_ rfl 3 (by simp)
    simp only [iv, List.getElem_cons_zero, List.getElem_cons_succ] at x0 x1 x2 x3
    go_simp) ?_
  simp only [List.setIfInBounds_toArray, List.set_cons_zero, List.set_cons_succ]
  refine wpX_v 10 (.pointer (some ⟨gz, 3, none⟩)) rfl rfl (by kernel_rfl) (by kernel_rfl) (by kernel_rfl) (fun _ _ _ _ h => h) (by kernel_rfl) rfl (by rfl) (fun W' hW => by
    obtain ⟨x0, _⟩ := (ho2.ext (((Ext.refl w2).drew).trans hW)).at_ rfl 0 (by simp)
    obtain ⟨x1, _⟩ := (ho2.ext (((Ext.refl w2).drew).trans hW)).at_ rfl 1 (by simp)
    obtain ⟨x2, _⟩ := (ho2.ext (((Ext.refl w2).drew).trans hW)).at_ rfl 2 (by simp)
    obtain ⟨x3, _⟩ := (ho2.ext (((Ext.refl w2).drew).trans hW)).at_ rfl 3 (by simp)
    simp only [iv, List.getElem_cons_zero, List.getElem_cons_succ] at x0 x1 x2 x3
    go_simp) ?_
  simp only [List.setIfInBounds_toArray, List.set_cons_zero, List.set_cons_succ]
  refine wpX_v 11 (.int .i64 a3) rfl rfl (by kernel_rfl) (by kernel_rfl) (by kernel_rfl) (fun _ _ _ _ h => h) (by kernel_rfl) rfl (by rfl) (fun W' hW => by
    obtain ⟨x0, _⟩ := (ho2.ext (((Ext.refl w2).drew).trans hW)).at_ rfl 0 (by simp)
    obtain ⟨x1, _⟩ := (ho2.ext (((Ext.refl w2).drew).trans hW)).at_ rfl 1 (by simp)
    obtain ⟨x2, _⟩ := (ho2.ext (((Ext.refl w2).drew).trans hW)).at_ rfl 2 (by simp)
    obtain ⟨x3, _⟩ := (ho2.ext (((Ext.refl w2).drew).trans hW)).at_ rfl 3 (by simp)
    simp only [iv, List.getElem_cons_zero, List.getElem_cons_succ] at x0 x1 x2 x3
    go_simp) ?_
  simp only [List.setIfInBounds_toArray, List.set_cons_zero, List.set_cons_succ]
  refine wpX_v 12 (.agg #[.int .i64 a0, .int .i64 a1, .int .i64 a2, .int .i64 a3, .slice none 0 0]) rfl rfl (by kernel_rfl) (by kernel_rfl) (by kernel_rfl) (fun _ _ _ _ h => h) (by kernel_rfl) rfl (by rfl) (fun W' hW => by
    skip
    go_simp) ?_
  simp only [List.setIfInBounds_toArray, List.set_cons_zero, List.set_cons_succ]
  refine wpX_end rfl fun W3 hW3 => Land.mk fun gc hgc hC => tail_seq 14 rfl (by kernel_rfl) ?_
  simp only [List.drop_succ_cons, List.drop_zero, List.setIfInBounds_toArray, List.set_cons_zero, List.set_cons_succ]
  have hX3 := ((Ext.refl w2).drew).trans hW3
  have hS3 := hS2.grow hX3
  have hB3 := hX3.heap hB2
  obtain ⟨c0, c1, c2, c3, c4⟩ := blk5 hC
  have d0 := blk_free hC 0
  have d1 := blk_free hC 1
  have d2 := blk_free hC 2
  have d3 := blk_free hC 3
  have d4 := blk_free hC 4
  go_wp2_with fail
  refine NoPanic.normal ?_
  obtain ⟨W4, hW4, hC4, hg4⟩ := store5 hC (.int .i64 a0) (.int .i64 a1) (.int .i64 a2) (.int .i64 a3) (.slice none 0 0)
  rw [hW4]
  clear hW4 c0 c1 c2 c3 c4 d0 d1 d2 d3 d4
  have hlt2 : w.heap.size + 1 < w2.heap.size := by
    obtain ⟨p, bad, h, _⟩ := hS2.blk
    exact World.block_lt_of_cell? _ _ (blk3 h).1
  have hS4 := hS3.far hg4 (by simp; omega) (fun k e => by cases e; omega)
  have hB4 := blk_grown hB3 hg4 (by simp; omega)
  clear hS3 hB3 hB2 hC hW3 hX3
  go_wp2_with fail
  refine (rdList_any w W4 (w.heap.size + 1) _ b st2 128 (by omega) (by omega) hS4 (by omega)).mono ?_
  rintro e w5 ⟨z5, l5, st5, rfl, ho5, hS5, hI5, hl5, hok5, hg5⟩
  have HI5 := Lib.hid hI5
  clear hI5
  have hB5 := blk_grown hB4 hg5 (by simp)
  have hC5 := blk_grown hC4 hg5 (by simp; omega)
  have hs4 := hg4.size
  have hs5 := hg5.size
  obtain ⟨c0, c1, c2, c3, c4⟩ := blk5 hC5
  have d4 := blk_free hC5 4
  obtain ⟨Z5, cz5, rfl, _, _⟩ := ho5.inV
  have hlt5 := World.block_lt_of_cell? _ _ c4
  simp only at hlt5
  have hC6 := blk_set hC5 4 (.slice Z5 l5.length cz5)
  have hg6 : w5.grownBy (w5.setCell ⟨gc, 4, none⟩ (.slice Z5 l5.length cz5)) (some gc) := gset w5 ⟨gc, 4, none⟩ (.slice Z5 l5.length cz5)
  have hS6 := hS5.far hg6 (by simp; omega) (fun k e => by cases e; omega)
  have hB6 := blk_grown hB5 hg6 (by simp; omega)
  have ho6 := ho5.set_far (p := ⟨gc, 4, none⟩) (ho5.ne_blk hC5 (by decide)) (.slice Z5 l5.length cz5)
  have ho6' := ho6.low (base' := w.heap.size) hS4.ext.size
  obtain ⟨p6, bad6, hR6, hst6⟩ := id hS6.blk
  obtain ⟨r0, r1, r2, _, _, _⟩ := blk3 hR6
  go_upto_region 5 with fail
  clear hS2 hS4 hS5 hB4 hB5 hC4 hC5 c0 c1 c2 c3 c4 d4 ho2 ho5 ho6 hg4 hg5 hg6 hlt5
  generalize w5.setCell ⟨gc, 4, none⟩ (.slice Z5 l5.length cz5) = w6 at *
  have hE6 : Ext w w6 := hS6.ext
  have hO : (⟨a0, a1, a2, a3, l5⟩ : Cmd).Ok := ⟨hok2, hok5⟩
  have HO := Lib.hid hO
  clear hO hok2 hok5
  cases bad6 with
  | true =>
    obtain rfl : st5 = none := hst6
    obtain ⟨e0, e1, e2, e3, e4⟩ := blk5 hB6
    have f0 := blk_free hB6 0
    have f1 := blk_free hB6 1
    have f2 := blk_free hB6 2
    have f3 := blk_free hB6 3
    have f4 := blk_free hB6 4
    go_wp2_with fail
    obtain ⟨W7, hW7, hB7, hg7⟩ := store5 hB6 (.int .i64 0) (.int .i64 0) (.int .i64 0) (.int .i64 0) (.slice none 0 0)
    rw [hW7]
    clear hW7 e0 e1 e2 e3 e4 f0 f1 f2 f3 f4
    obtain ⟨e0, e1, e2, e3, e4⟩ := blk5 hB7
    go_wp2_with fail
    have HN : ¬ ∃ c' : Cmd, c'.Enc b := fun ⟨c', hc⟩ => by have := (dec_read HI2.out HI5.out hc).2.2; cases this
    refine bodyPost_ret (v := .tuple #[.agg #[.int .i64 0, .int .i64 0, .int .i64 0, .int .i64 0, .slice none 0 0], .int .i64 4]) (by simp [results, Try.results20, go_sem, e0, e1, e2, e3, e4]) rfl ?_
    exact ⟨_, cmd0, 4, rfl, .inr ⟨rfl, rfl, HN⟩, ⟨_, rfl, OwnV.nil _⟩, hE6.grown hg7 (fun k e => by cases e; omega)⟩
  | false =>
    have hle : l5.length ≤ 128 := by omega
    obtain ⟨c0, c1, c2, c3, c4⟩ := blk5 hC6
    go_wp2_with fail
    refine (EncodeCommand_any _ ⟨a0, a1, a2, a3, l5⟩ w6 ⟨_, rfl, ho6'.inV⟩ HO.out (by simp only; omega)).mono ?_
    rintro e w7 ⟨y7, er7, rfl, h7, hX7⟩
    obtain ⟨_, rfl, ho7⟩ | ⟨h7, _, _⟩ := h7
    rotate_left
    · simp only at h7; omega
    have hS7 := hS6.grow hX7
    have hB7 := hX7.heap hB6
    have hC7 := hX7.heap hC6
    have ho7' := ho6'.ext hX7
    have hE7 := hE6.trans hX7
    obtain ⟨Y7, cy7, rfl, _, _⟩ := ho7.inV
    clear c0 c1 c2 c3 c4 hB6 hC6 hS6 ho6' hE6 r0 r1 r2 hR6
    go_wp2_with fail
    refine (bytesEqual_any _ _ _ b w7 ho7.inV (hy.ext hE7)).mono ?_
    rintro e w8 ⟨r, rfl, hr, hX8⟩
    have hB6 := hX8.heap hB7
    have hC6 := hX8.heap hC7
    have ho6' := ho7'.ext hX8
    have hE6 := hE7.trans hX8
    have HR := Lib.hid hr
    clear hr hB7 hC7 ho7' hE7
    cases r with
    | true =>
      obtain ⟨c0, c1, c2, c3, c4⟩ := blk5 hC6
      obtain ⟨e0, e1, e2, e3, e4⟩ := blk5 hB6
      have f0 := blk_free hB6 0
      have f1 := blk_free hB6 1
      have f2 := blk_free hB6 2
      have f3 := blk_free hB6 3
      have f4 := blk_free hB6 4
      go_wp2_with fail
      obtain ⟨W7, hW7, hB7, hg7⟩ := store5 hB6 (.int .i64 a0) (.int .i64 a1) (.int .i64 a2) (.int .i64 a3) (.slice Z5 l5.length cz5)
      rw [hW7]
      clear hW7
      clear e0 e1 e2 e3 e4 f0 f1 f2 f3 f4
      obtain ⟨e0, e1, e2, e3, e4⟩ := blk5 hB7
      go_wp2_with fail
      refine bodyPost_ret (v := .tuple #[.agg #[.int .i64 a0, .int .i64 a1, .int .i64 a2, .int .i64 a3, .slice Z5 l5.length cz5], .int .i64 0]) (by simp [results, Try.results20, go_sem, e0, e1, e2, e3, e4]) rfl ?_
      have hO8 := ho6'.kept hg7 (.inr (ho6'.ne_blk hB6 (by decide)))
      exact ⟨_, ⟨a0, a1, a2, a3, l5⟩, 0, rfl, .inl ⟨rfl, HO.out, hle, HR.out.1 (by simp)⟩, ⟨_, rfl, hO8⟩, hE6.grown hg7 (fun k e => by cases e; omega)⟩
    | false =>
      obtain ⟨e0, e1, e2, e3, e4⟩ := blk5 hB6
      have f0 := blk_free hB6 0
      have f1 := blk_free hB6 1
      have f2 := blk_free hB6 2
      have f3 := blk_free hB6 3
      have f4 := blk_free hB6 4
      go_wp2_with fail
      obtain ⟨W7, hW7, hB7, hg7⟩ := store5 hB6 (.int .i64 0) (.int .i64 0) (.int .i64 0) (.int .i64 0) (.slice none 0 0)
      rw [hW7]
      clear hW7 e0 e1 e2 e3 e4 f0 f1 f2 f3 f4
      obtain ⟨e0, e1, e2, e3, e4⟩ := blk5 hB7
      go_wp2_with fail
      have HN : ¬ ∃ c' : Cmd, c'.Enc b := fun ⟨c', hc⟩ => by
        have h := dec_read HI2.out HI5.out hc
        have e : (⟨a0, a1, a2, a3, l5⟩ : Cmd) = c' := by
          have h1 := h.1
          simp only [Cmd.head, List.cons.injEq] at h1
          exact cmd_eq h1.1 h1.2.1 h1.2.2.1 h1.2.2.2.1 h.2.1
        rw [e] at HR
        have := HR.out.2 hc.eq
        cases this
      refine bodyPost_ret (v := .tuple #[.agg #[.int .i64 0, .int .i64 0, .int .i64 0, .int .i64 0, .slice none 0 0], .int .i64 4]) (by simp [results, Try.results20, go_sem, e0, e1, e2, e3, e4]) rfl ?_
      exact ⟨_, cmd0, 4, rfl, .inr ⟨rfl, rfl, HN⟩, ⟨_, rfl, OwnV.nil _⟩, hE6.grown hg7 (fun k e => by cases e; omega)⟩

theorem dec_read2 {b : List UInt8} {l2 l5 : List Int} {st2 st5 : Option Int} {c : Cmd} (h2 : ListIs ((some 0).bind (listR b 4)) l2 st2) (h5 : ListIs (st2.bind (listR b 128)) l5 st5) (hc : c.Enc b) : l2 = c.head ∧ l5 = c.words ∧ st5 = some (b.length : Int) := by
  obtain ⟨_, e1, e2⟩ := encC_read hc
  simp only [Option.bind_some] at h2
  rw [e1] at h2
  rcases h2 with ⟨q, h2, rfl⟩ | ⟨h2, _⟩
  · simp only [Option.some.injEq, Prod.mk.injEq] at h2
    obtain ⟨rfl, rfl⟩ := h2
    simp only [Option.bind_some] at h5
    rw [e2] at h5
    rcases h5 with ⟨q, h5, rfl⟩ | ⟨h5, _⟩
    · simp only [Option.some.injEq, Prod.mk.injEq] at h5
      obtain ⟨rfl, rfl⟩ := h5
      exact ⟨rfl, rfl, rfl⟩
    · cases h5
  · cases h2
theorem dec_len {b : List UInt8} {l2 : List Int} {st2 : Option Int} {c : Cmd} (h2 : ListIs ((some 0).bind (listR b 4)) l2 st2) (hc : c.Enc b) : l2.length = 4 := by
  obtain ⟨_, e1, e2⟩ := encC_read hc
  simp only [Option.bind_some] at h2
  rw [e1] at h2
  rcases h2 with ⟨q, h2, rfl⟩ | ⟨h2, _⟩
  · simp only [Option.some.injEq, Prod.mk.injEq] at h2
    rw [← h2.1]
    rfl
  · cases h2
theorem dec_back {b : List UInt8} {a0 a1 a2 a3 : Int} {l5 : List Int} {st2 : Option Int} (h2 : ListIs ((some 0).bind (listR b 4)) [a0, a1, a2, a3] st2) (h5 : ListIs (st2.bind (listR b 128)) l5 (some (b.length : Int))) : encC ⟨a0, a1, a2, a3, l5⟩ = b := by
  rcases h5 with ⟨q, h5, e⟩ | ⟨_, h5⟩
  · simp only [Option.some.injEq] at e
    subst e
    rcases h2 with ⟨q2, h2, rfl⟩ | ⟨_, rfl⟩
    · simp only [Option.bind_some] at h2 h5
      obtain ⟨_, _, _, _, _, k⟩ := listR_inv h2
      obtain ⟨_, _, _, _, _, m⟩ := listR_inv h5
      have m' : b.drop q2.toNat = listB l5 := by rw [m]; simp
      rw [m'] at k
      simpa [encC, Cmd.head] using k.symm
    · cases h5
  · cases h5
set_option maxHeartbeats 4000000 in
set_option maxRecDepth 100000 in
theorem refDecodeCommand_any (y : Value) (b : List UInt8) (w : World) (hy : InB w y b) (hl : b.length ≤ 100000) :
    Calls Try.prog 36 #[y] w (DecCPost b w) := by
  obtain ⟨A, c, rfl, _, _⟩ := id hy
  go_enter Try.func36, Try.ntmps36
  go_upto_region 2 with fail
  obtain ⟨W, hW, hE, hB, hR⟩ : ∃ W, W = (w.alloc (.cells #[.int .i64 0, .int .i64 0, .int .i64 0, .int .i64 0, .slice none 0 0] 28)).alloc (.cells #[.slice A b.length c, .int .i64 0, .bool false] 100) ∧ Ext w W ∧ W.heap[w.heap.size]? = some (.cells #[.int .i64 0, .int .i64 0, .int .i64 0, .int .i64 0, .slice none 0 0] 28 (0, 0)) ∧ W.heap[w.heap.size + 1]? = some (.cells #[.slice A b.length c, .int .i64 0, .bool false] 100 (0, 0)) := ⟨_, rfl, ((Ext.refl w).alloc _).alloc _, ((Ext.refl _).alloc _).heap (heap_alloc_new w _), by have := heap_alloc_new (w.alloc (.cells #[.int .i64 0, .int .i64 0, .int .i64 0, .int .i64 0, .slice none 0 0] 28)) (.cells #[.slice A b.length c, .int .i64 0, .bool false] 100); simpa using this⟩
  rw [← hW]
  clear hW
  have hS : RS 100 w W (w.heap.size + 1) (.slice A b.length c) b (some 0) := ⟨hy, hE, by omega, 0, false, hR, rfl⟩
  go_wp2_with fail
  refine (rfList_any w W (w.heap.size + 1) _ b (some 0) 4 (by omega) (by omega) hS (by omega)).mono ?_
  rintro e w2 ⟨z, l, st2, rfl, ho2, hS2, hI2, hl2, hok2, hg2⟩
  have hB6 := blk_grown hB hg2 (by simp)
  have hE6 : Ext w w2 := hS2.ext
  have HI2 := Lib.hid hI2
  obtain ⟨pR, badR, hRR, _⟩ := id hS2.blk
  have hn2 := ho2.ne_blk hRR (by decide)
  obtain ⟨Z, cz, rfl, _, _⟩ := ho2.inV
  clear hI2 hS hR hB
  by_cases h4 : l.length = 4
  rotate_left
  · have h4' : ((l.length : Int) == 4) = false := by simp; omega
    obtain ⟨e0, e1, e2, e3, e4⟩ := blk5 hB6
    have f0 := blk_free hB6 0
    have f1 := blk_free hB6 1
    have f2 := blk_free hB6 2
    have f3 := blk_free hB6 3
    have f4 := blk_free hB6 4
    go_wp2_with fail
    obtain ⟨W7, hW7, hB7, hg7⟩ := store5 hB6 (.int .i64 0) (.int .i64 0) (.int .i64 0) (.int .i64 0) (.slice none 0 0)
    rw [hW7]
    clear hW7 e0 e1 e2 e3 e4 f0 f1 f2 f3 f4
    obtain ⟨e0, e1, e2, e3, e4⟩ := blk5 hB7
    go_wp2_with fail
    have HN : ¬ ∃ c' : Cmd, c'.Enc b := fun ⟨c', hc⟩ => h4 (dec_len HI2.out hc)
    refine bodyPost_ret (v := .tuple #[.agg #[.int .i64 0, .int .i64 0, .int .i64 0, .int .i64 0, .slice none 0 0], .int .i64 4]) (by simp [results, Try.results36, go_sem, e0, e1, e2, e3, e4]) rfl ?_
    exact ⟨_, cmd0, 4, rfl, .inr ⟨rfl, rfl, HN⟩, ⟨_, rfl, OwnV.nil _⟩, hE6.grown hg7 (fun k e => by cases e; omega)⟩
  have h4' : ((l.length : Int) == 4) = true := by simp; omega
  obtain ⟨a0, a1, a2, a3, rfl⟩ := four_list (by omega : (l.length : Int) = 4)
  obtain ⟨gz, cz, e, hgz, _⟩ := ho2.form (by simp)
  simp only [Value.slice.injEq] at e
  obtain ⟨rfl, _, rfl⟩ := e
  have hB2 := hB6
  have hE2 := hE6
  have hlt2 : w.heap.size + 1 < w2.heap.size := World.block_lt_of_cell? _ _ (blk3 hRR).1
  clear hB6 hE6 hl2
  simp only [List.length_cons, List.length_nil] at *
  go_wp2_with fail
  refine wp_region_Z #[true, true, true, true, true, true, true, true, true, true, true, true, true, true, true, true, false] (some (w.heap.size + 1)) 16 1 (by kernel_rfl) rfl ?_
  refine wpZ_f 15 (.cells #[.int .i64 0, .int .i64 0, .int .i64 0, .int .i64 0, .slice none 0 0] 28 (0, 0)) rfl rfl (by kernel_rfl) (by kernel_rfl) (by kernel_rfl) (fun _ _ _ _ h => h) rfl (fun a w => by go_simp) (w2.heap.size) (fun k e => by cases e; exact hlt2) (Nat.le_refl _) (by kernel_rfl) ?_
  refine wpZ_v 0 (.slice (some ⟨gz, 0, none⟩) 4 cz) rfl rfl (by kernel_rfl) (by kernel_rfl) (by kernel_rfl) (fun _ _ _ _ h => h) (by kernel_rfl) rfl (by rfl) (fun W' hW => by
    obtain ⟨x0, _⟩ := ((ho2.ext ((Ext.refl w2).drew)).kept hW (.inr hn2)).at_ rfl 0 (by simp)
    obtain ⟨x1, _⟩ := ((ho2.ext ((Ext.refl w2).drew)).kept hW (.inr hn2)).at_ rfl 1 (by simp)
    obtain ⟨x2, _⟩ := ((ho2.ext ((Ext.refl w2).drew)).kept hW (.inr hn2)).at_ rfl 2 (by simp)
    obtain ⟨x3, _⟩ := ((ho2.ext ((Ext.refl w2).drew)).kept hW (.inr hn2)).at_ rfl 3 (by simp)
    simp only [iv, List.getElem_cons_zero, List.getElem_cons_succ] at x0 x1 x2 x3
    go_simp) ?_
  simp only [List.setIfInBounds_toArray, List.set_cons_zero, List.set_cons_succ]
  refine wpZ_v 1 (.pointer (some ⟨gz, 0, none⟩)) rfl rfl (by kernel_rfl) (by kernel_rfl) (by kernel_rfl) (fun _ _ _ _ h => h) (by kernel_rfl) rfl (by rfl) (fun W' hW => by
    obtain ⟨x0, _⟩ := ((ho2.ext ((Ext.refl w2).drew)).kept hW (.inr hn2)).at_ rfl 0 (by simp)
    obtain ⟨x1, _⟩ := ((ho2.ext ((Ext.refl w2).drew)).kept hW (.inr hn2)).at_ rfl 1 (by simp)
    obtain ⟨x2, _⟩ := ((ho2.ext ((Ext.refl w2).drew)).kept hW (.inr hn2)).at_ rfl 2 (by simp)
    obtain ⟨x3, _⟩ := ((ho2.ext ((Ext.refl w2).drew)).kept hW (.inr hn2)).at_ rfl 3 (by simp)
    simp only [iv, List.getElem_cons_zero, List.getElem_cons_succ] at x0 x1 x2 x3
    go_simp) ?_
  simp only [List.setIfInBounds_toArray, List.set_cons_zero, List.set_cons_succ]
  refine wpZ_v 2 (.int .i64 a0) rfl rfl (by kernel_rfl) (by kernel_rfl) (by kernel_rfl) (fun _ _ _ _ h => h) (by kernel_rfl) rfl (by rfl) (fun W' hW => by
    obtain ⟨x0, _⟩ := ((ho2.ext ((Ext.refl w2).drew)).kept hW (.inr hn2)).at_ rfl 0 (by simp)
    obtain ⟨x1, _⟩ := ((ho2.ext ((Ext.refl w2).drew)).kept hW (.inr hn2)).at_ rfl 1 (by simp)
    obtain ⟨x2, _⟩ := ((ho2.ext ((Ext.refl w2).drew)).kept hW (.inr hn2)).at_ rfl 2 (by simp)
    obtain ⟨x3, _⟩ := ((ho2.ext ((Ext.refl w2).drew)).kept hW (.inr hn2)).at_ rfl 3 (by simp)
    simp only [iv, List.getElem_cons_zero, List.getElem_cons_succ] at x0 x1 x2 x3
    go_simp) ?_
  simp only [List.setIfInBounds_toArray, List.set_cons_zero, List.set_cons_succ]
  refine wpZ_v 3 (.slice (some ⟨gz, 0, none⟩) 4 cz) rfl rfl (by kernel_rfl) (by kernel_rfl) (by kernel_rfl) (fun _ _ _ _ h => h) (by kernel_rfl) rfl (by rfl) (fun W' hW => by
    obtain ⟨x0, _⟩ := ((ho2.ext ((Ext.refl w2).drew)).kept hW (.inr hn2)).at_ rfl 0 (by simp)
    obtain ⟨x1, _⟩ := ((ho2.ext ((Ext.refl w2).drew)).kept hW (.inr hn2)).at_ rfl 1 (by simp)
    obtain ⟨x2, _⟩ := ((ho2.ext ((Ext.refl w2).drew)).kept hW (.inr hn2)).at_ rfl 2 (by simp)
    obtain ⟨x3, _⟩ := ((ho2.ext ((Ext.refl w2).drew)).kept hW (.inr hn2)).at_ rfl 3 (by simp)
    simp only [iv, List.getElem_cons_zero, List.getElem_cons_succ] at x0 x1 x2 x3
    go_simp) ?_
  simp only [List.setIfInBounds_toArray, List.set_cons_zero, List.set_cons_succ]
  refine wpZ_v 4 (.pointer (some ⟨gz, 1, none⟩)) rfl rfl (by kernel_rfl) (by kernel_rfl) (by kernel_rfl) (fun _ _ _ _ h => h) (by kernel_rfl) rfl (by rfl) (fun W' hW => by
    obtain ⟨x0, _⟩ := ((ho2.ext ((Ext.refl w2).drew)).kept hW (.inr hn2)).at_ rfl 0 (by simp)
    obtain ⟨x1, _⟩ := ((ho2.ext ((Ext.refl w2).drew)).kept hW (.inr hn2)).at_ rfl 1 (by simp)
    obtain ⟨x2, _⟩ := ((ho2.ext ((Ext.refl w2).drew)).kept hW (.inr hn2)).at_ rfl 2 (by simp)
    obtain ⟨x3, _⟩ := ((ho2.ext ((Ext.refl w2).drew)).kept hW (.inr hn2)).at_ rfl 3 (by simp)
    simp only [iv, List.getElem_cons_zero, List.getElem_cons_succ] at x0 x1 x2 x3
    go_simp) ?_
  simp only [List.setIfInBounds_toArray, List.set_cons_zero, List.set_cons_succ]
  refine wpZ_v 5 (.int .i64 a1) rfl rfl (by kernel_rfl) (by kernel_rfl) (by kernel_rfl) (fun _ _ _ _ h => h) (by kernel_rfl) rfl (by rfl) (fun W' hW => by
    obtain ⟨x0, _⟩ := ((ho2.ext ((Ext.refl w2).drew)).kept hW (.inr hn2)).at_ rfl 0 (by simp)
    obtain ⟨x1, _⟩ := ((ho2.ext ((Ext.refl w2).drew)).kept hW (.inr hn2)).at_ rfl 1 (by simp)
    obtain ⟨x2, _⟩ := ((ho2.ext ((Ext.refl w2).drew)).kept hW (.inr hn2)).at_ rfl 2 (by simp)
    obtain ⟨x3, _⟩ := ((ho2.ext ((Ext.refl w2).drew)).kept hW (.inr hn2)).at_ rfl 3 (by simp)
    simp only [iv, List.getElem_cons_zero, List.getElem_cons_succ] at x0 x1 x2 x3
    go_simp) ?_
  simp only [List.setIfInBounds_toArray, List.set_cons_zero, List.set_cons_succ]
  refine wpZ_v 6 (.slice (some ⟨gz, 0, none⟩) 4 cz) rfl rfl (by kernel_rfl) (by kernel_rfl) (by kernel_rfl) (fun _ _ _ _ h => h) (by kernel_rfl) rfl (by rfl) (fun W' hW => by
    obtain ⟨x0, _⟩ := ((ho2.ext ((Ext.refl w2).drew)).kept hW (.inr hn2)).at_ rfl 0 (by simp)
    obtain ⟨x1, _⟩ := ((ho2.ext ((Ext.refl w2).drew)).kept hW (.inr hn2)).at_ rfl 1 (by simp)
    obtain ⟨x2, _⟩ := ((ho2.ext ((Ext.refl w2).drew)).kept hW (.inr hn2)).at_ rfl 2 (by simp)
    obtain ⟨x3, _⟩ := ((ho2.ext ((Ext.refl w2).drew)).kept hW (.inr hn2)).at_ rfl 3 (by simp)
    simp only [iv, List.getElem_cons_zero, List.getElem_cons_succ] at x0 x1 x2 x3
    go_simp) ?_
  simp only [List.setIfInBounds_toArray, List.set_cons_zero, List.set_cons_succ]
  refine wpZ_v 7 (.pointer (some ⟨gz, 2, none⟩)) rfl rfl (by kernel_rfl) (by kernel_rfl) (by kernel_rfl) (fun _ _ _ _ h => h) (by kernel_rfl) rfl (by rfl) (fun W' hW => by
    obtain ⟨x0, _⟩ := ((ho2.ext ((Ext.refl w2).drew)).kept hW (.inr hn2)).at_ rfl 0 (by simp)
    obtain ⟨x1, _⟩ := ((ho2.ext ((Ext.refl w2).drew)).kept hW (.inr hn2)).at_ rfl 1 (by simp)
    obtain ⟨x2, _⟩ := ((ho2.ext ((Ext.refl w2).drew)).kept hW (.inr hn2)).at_ rfl 2 (by simp)
    obtain ⟨x3, _⟩ := ((ho2.ext ((Ext.refl w2).drew)).kept hW (.inr hn2)).at_ rfl 3 (by simp)
    simp only [iv, List.getElem_cons_zero, List.getElem_cons_succ] at x0 x1 x2 x3
    go_simp) ?_
  simp only [List.setIfInBounds_toArray, List.set_cons_zero, List.set_cons_succ]
  refine wpZ_v 8 (.int .i64 a2) rfl rfl (by kernel_rfl) (by kernel_rfl) (by kernel_rfl) (fun _ _ _ _ h => h) (by kernel_rfl) rfl (by rfl) (fun W' hW => by
    obtain ⟨x0, _⟩ := ((ho2.ext ((Ext.refl w2).drew)).kept hW (.inr hn2)).at_ rfl 0 (by simp)
    obtain ⟨x1, _⟩ := ((ho2.ext ((Ext.refl w2).drew)).kept hW (.inr hn2)).at_ rfl 1 (by simp)
    obtain ⟨x2, _⟩ := ((ho2.ext ((Ext.refl w2).drew)).kept hW (.inr hn2)).at_ rfl 2 (by simp)
    obtain ⟨x3, _⟩ := ((ho2.ext ((Ext.refl w2).drew)).kept hW (.inr hn2)).at_ rfl 3 (by simp)
    simp only [iv, List.getElem_cons_zero, List.getElem_cons_succ] at x0 x1 x2 x3
    go_simp) ?_
  simp only [List.setIfInBounds_toArray, List.set_cons_zero, List.set_cons_succ]
  refine wpZ_v 9 (.slice (some ⟨gz, 0, none⟩) 4 cz) rfl rfl (by kernel_rfl) (by kernel_rfl) (by kernel_rfl) (fun _ _ _ _ h => h) (by kernel_rfl) rfl (by rfl) (fun W' hW => by
    obtain ⟨x0, _⟩ := ((ho2.ext ((Ext.refl w2).drew)).kept hW (.inr hn2)).at_ rfl 0 (by simp)
    obtain ⟨x1, _⟩ := ((ho2.ext ((Ext.refl w2).drew)).kept hW (.inr hn2)).at_ rfl 1 (by simp)
    obtain ⟨x2, _⟩ := ((ho2.ext ((Ext.refl w2).drew)).kept hW (.inr hn2)).at_ rfl 2 (by simp)
    obtain ⟨x3, _⟩ := ((ho2.ext ((Ext.refl w2).drew)).kept hW (.inr hn2)).at_ rfl 3 (by simp)
    simp only [iv, List.getElem_cons_zero, List.getElem_cons_succ] at x0 x1 x2 x3
    go_simp) ?_
  simp only [List.setIfInBounds_toArray, List.set_cons_zero, List.set_cons_succ]
  refine wpZ_v 10 (.pointer (some ⟨gz, 3, none⟩)) rfl rfl (by kernel_rfl) (by kernel_rfl) (by kernel_rfl) (fun _ _ _ _ h => h) (by kernel_rfl) rfl (by rfl) (fun W' hW => by
    obtain ⟨x0, _⟩ := ((ho2.ext ((Ext.refl w2).drew)).kept hW (.inr hn2)).at_ rfl 0 (by simp)
    obtain ⟨x1, _⟩ := ((ho2.ext ((Ext.refl w2).drew)).kept hW (.inr hn2)).at_ rfl 1 (by simp)
    obtain ⟨x2, _⟩ := ((ho2.ext ((Ext.refl w2).drew)).kept hW (.inr hn2)).at_ rfl 2 (by simp)
    obtain ⟨x3, _⟩ := ((ho2.ext ((Ext.refl w2).drew)).kept hW (.inr hn2)).at_ rfl 3 (by simp)
    simp only [iv, List.getElem_cons_zero, List.getElem_cons_succ] at x0 x1 x2 x3
    go_simp) ?_
  simp only [List.setIfInBounds_toArray, List.set_cons_zero, List.set_cons_succ]
  refine wpZ_v 11 (.int .i64 a3) rfl rfl (by kernel_rfl) (by kernel_rfl) (by kernel_rfl) (fun _ _ _ _ h => h) (by kernel_rfl) rfl (by rfl) (fun W' hW => by
    obtain ⟨x0, _⟩ := ((ho2.ext ((Ext.refl w2).drew)).kept hW (.inr hn2)).at_ rfl 0 (by simp)
    obtain ⟨x1, _⟩ := ((ho2.ext ((Ext.refl w2).drew)).kept hW (.inr hn2)).at_ rfl 1 (by simp)
    obtain ⟨x2, _⟩ := ((ho2.ext ((Ext.refl w2).drew)).kept hW (.inr hn2)).at_ rfl 2 (by simp)
    obtain ⟨x3, _⟩ := ((ho2.ext ((Ext.refl w2).drew)).kept hW (.inr hn2)).at_ rfl 3 (by simp)
    simp only [iv, List.getElem_cons_zero, List.getElem_cons_succ] at x0 x1 x2 x3
    go_simp) ?_
  simp only [List.setIfInBounds_toArray, List.set_cons_zero, List.set_cons_succ]
  refine wpZ_v 12 (.pointer (some ⟨w.heap.size + 1, 0, none⟩)) rfl rfl (by kernel_rfl) (by kernel_rfl) (by kernel_rfl) (fun _ _ _ _ h => h) (by kernel_rfl) rfl (by rfl) (fun W' hW => by
    skip
    go_simp) ?_
  simp only [List.setIfInBounds_toArray, List.set_cons_zero, List.set_cons_succ]
  refine wpZ_c 13 57 #[.pointer (some ⟨w.heap.size + 1, 0, none⟩), .int .i64 128] rfl rfl (by kernel_rfl) rfl (by rfl) (fun W => by go_simp) ?_
  intro W4 hW4
  have hX4 := ((Ext.refl w2).drew).trans hW4
  have hS4 := hS2.grow hX4
  refine (rfList_any w W4 (w.heap.size + 1) _ b st2 128 (by omega) (by omega) hS4 (by omega)).mono ?_
  rintro e w5 ⟨z5, l5, st5, rfl, ho5, hS5, hI5, hl5, hok5, hg5⟩
  refine ⟨_, rfl, hg5, ?_⟩
  simp only [List.setIfInBounds_toArray, List.set_cons_zero, List.set_cons_succ]
  have HI5 := Lib.hid hI5
  clear hI5
  have hB5 := blk_grown (hX4.heap hB2) hg5 (by simp)
  have hs4 := hX4.size
  have hs5 := hg5.size
  obtain ⟨Z5, cz5, rfl, _, _⟩ := ho5.inV
  refine wpZ_v 14 (.agg #[.int .i64 a0, .int .i64 a1, .int .i64 a2, .int .i64 a3, .slice Z5 l5.length cz5]) rfl rfl (by kernel_rfl) (by kernel_rfl) (by kernel_rfl) (fun _ _ _ _ h => h) (by kernel_rfl) rfl (by rfl) (fun W' hW => by
    skip
    go_simp) ?_
  simp only [List.setIfInBounds_toArray, List.set_cons_zero, List.set_cons_succ]
  refine wpZ_end rfl fun W6 hW6 => Land.mk fun gc hgc hC => tail_seq 16 rfl (by kernel_rfl) ?_
  simp only [List.drop_succ_cons, List.drop_zero, List.setIfInBounds_toArray, List.set_cons_zero, List.set_cons_succ]
  have hS6' := hS5.grow hW6
  have hB6' := hW6.heap hB5
  have ho6' := ho5.ext hW6
  obtain ⟨c0, c1, c2, c3, c4⟩ := blk5 hC
  have d0 := blk_free hC 0
  have d1 := blk_free hC 1
  have d2 := blk_free hC 2
  have d3 := blk_free hC 3
  have d4 := blk_free hC 4
  go_wp2_with fail
  refine NoPanic.normal ?_
  obtain ⟨w6, hw6, hC6, hg6⟩ := store5 hC (.int .i64 a0) (.int .i64 a1) (.int .i64 a2) (.int .i64 a3) (.slice Z5 l5.length cz5)
  rw [hw6]
  clear hw6 c0 c1 c2 c3 c4 d0 d1 d2 d3 d4
  have hS6 := hS6'.far hg6 (by simp; omega) (fun k e => by cases e; omega)
  have hB6 := blk_grown hB6' hg6 (by simp; omega)
  have ho6 := (ho6'.kept hg6 (.inr (ho6'.ne_blk hC (by decide)))).low (base' := w.heap.size) hS4.ext.size
  clear hS6' hB6' ho6' hC ho5 hS5 hB5 ho2 hS4 hg6 hg5 hW6
  have hE6 : Ext w w6 := hS6.ext
  have hO : (⟨a0, a1, a2, a3, l5⟩ : Cmd).Ok := ⟨hok2, hok5⟩
  have HO := Lib.hid hO
  clear hO hok2 hok5
  obtain ⟨p6, bad6, hR6, hst6⟩ := id hS6.blk
  obtain ⟨r0, r1, r2, _, _, _⟩ := blk3 hR6
  cases bad6 with
  | true =>
    obtain rfl : st5 = none := hst6
    obtain ⟨e0, e1, e2, e3, e4⟩ := blk5 hB6
    have f0 := blk_free hB6 0
    have f1 := blk_free hB6 1
    have f2 := blk_free hB6 2
    have f3 := blk_free hB6 3
    have f4 := blk_free hB6 4
    go_wp2_with fail
    obtain ⟨W7, hW7, hB7, hg7⟩ := store5 hB6 (.int .i64 0) (.int .i64 0) (.int .i64 0) (.int .i64 0) (.slice none 0 0)
    rw [hW7]
    clear hW7 e0 e1 e2 e3 e4 f0 f1 f2 f3 f4
    obtain ⟨e0, e1, e2, e3, e4⟩ := blk5 hB7
    go_wp2_with fail
    have HN : ¬ ∃ c' : Cmd, c'.Enc b := fun ⟨c', hc⟩ => by have := (dec_read2 HI2.out HI5.out hc).2.2; cases this
    refine bodyPost_ret (v := .tuple #[.agg #[.int .i64 0, .int .i64 0, .int .i64 0, .int .i64 0, .slice none 0 0], .int .i64 4]) (by simp [results, Try.results36, go_sem, e0, e1, e2, e3, e4]) rfl ?_
    exact ⟨_, cmd0, 4, rfl, .inr ⟨rfl, rfl, HN⟩, ⟨_, rfl, OwnV.nil _⟩, hE6.grown hg7 (fun k e => by cases e; omega)⟩
  | false =>
    obtain rfl : st5 = some p6 := hst6
    by_cases hp : p6 = b.length
    · have hp' : (p6 == (b.length : Int)) = true := by simp [hp]
      have HP := Lib.hid hp
      clear hp
      obtain ⟨c0, c1, c2, c3, c4⟩ := blk5 hC6
      obtain ⟨e0, e1, e2, e3, e4⟩ := blk5 hB6
      have f0 := blk_free hB6 0
      have f1 := blk_free hB6 1
      have f2 := blk_free hB6 2
      have f3 := blk_free hB6 3
      have f4 := blk_free hB6 4
      go_wp2_with fail
      obtain ⟨W7, hW7, hB7, hg7⟩ := store5 hB6 (.int .i64 a0) (.int .i64 a1) (.int .i64 a2) (.int .i64 a3) (.slice Z5 l5.length cz5)
      rw [hW7]
      clear hW7
      clear e0 e1 e2 e3 e4 f0 f1 f2 f3 f4
      obtain ⟨e0, e1, e2, e3, e4⟩ := blk5 hB7
      go_wp2_with fail
      refine bodyPost_ret (v := .tuple #[.agg #[.int .i64 a0, .int .i64 a1, .int .i64 a2, .int .i64 a3, .slice Z5 l5.length cz5], .int .i64 0]) (by simp [results, Try.results36, go_sem, e0, e1, e2, e3, e4]) rfl ?_
      have hO8 := ho6.kept hg7 (.inr (ho6.ne_blk hB6 (by decide)))
      exact ⟨_, ⟨a0, a1, a2, a3, l5⟩, 0, rfl, .inl ⟨rfl, HO.out, by simp only; omega, dec_back HI2.out (by rw [← HP.out]; exact HI5.out)⟩, ⟨_, rfl, hO8⟩, hE6.grown hg7 (fun k e => by cases e; omega)⟩
    · have hp' : (p6 == (b.length : Int)) = false := by simp [hp]
      have HP := Lib.hid hp
      clear hp
      obtain ⟨e0, e1, e2, e3, e4⟩ := blk5 hB6
      have f0 := blk_free hB6 0
      have f1 := blk_free hB6 1
      have f2 := blk_free hB6 2
      have f3 := blk_free hB6 3
      have f4 := blk_free hB6 4
      go_wp2_with fail
      obtain ⟨W7, hW7, hB7, hg7⟩ := store5 hB6 (.int .i64 0) (.int .i64 0) (.int .i64 0) (.int .i64 0) (.slice none 0 0)
      rw [hW7]
      clear hW7 e0 e1 e2 e3 e4 f0 f1 f2 f3 f4
      obtain ⟨e0, e1, e2, e3, e4⟩ := blk5 hB7
      go_wp2_with fail
      have HN : ¬ ∃ c' : Cmd, c'.Enc b := fun ⟨c', hc⟩ => by
        have := (dec_read2 HI2.out HI5.out hc).2.2
        simp only [Option.some.injEq] at this
        exact HP.out this
      refine bodyPost_ret (v := .tuple #[.agg #[.int .i64 0, .int .i64 0, .int .i64 0, .int .i64 0, .slice none 0 0], .int .i64 4]) (by simp [results, Try.results36, go_sem, e0, e1, e2, e3, e4]) rfl ?_
      exact ⟨_, cmd0, 4, rfl, .inr ⟨rfl, rfl, HN⟩, ⟨_, rfl, OwnV.nil _⟩, hE6.grown hg7 (fun k e => by cases e; omega)⟩
end Go.Proofs.Ytoeibcpjmoekpaa
