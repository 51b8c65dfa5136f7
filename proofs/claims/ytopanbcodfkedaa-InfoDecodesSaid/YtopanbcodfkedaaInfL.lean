/- The sanity check of layer 21. -/
import Derived.Test.YtopanbcodfkedaaInfS
import Derived.Test.YtopanbcodfkedaaInfF
namespace Go.Proofs.Ytopanbcodfkedaa
open Go.RowKit
set_option linter.unusedVariables false
set_option linter.unusedSimpArgs false

section
variable {P : Program}
theorem run_rowTwo21 {t e : TypeId} {k bytes : Nat} (he : ElemN P t e k bytes) (w : World) (cs ds : Array Value) (hs : cs.size = k) (hd : ds.size = k) (hk : k ≤ 1000) :
    (Instr.buildSlice t 2 #[(0, .agg cs), (1, .agg ds)]).run P w = .ok (.slice (some ⟨w.heap.size, 0, none⟩) 2 2) (w.alloc (.cells (cs ++ ds) e)) := by
  obtain ⟨i, z, hi, hz0, hz1, hz2, hzc⟩ := he.info
  have hp := he.pos
  have hf := Great.fill_whole (s := k) hp [.agg cs, .agg ds] ((Array.range (2 * k)).map (z.cells[· % z.cells.size]!)) (fun v hv => by simp only [List.mem_cons, List.not_mem_nil, or_false] at hv; rcases hv with rfl | rfl <;> assumption) (by simp)
  refine run_buildSlice w t e 2 _ (cs ++ ds) i z he.slice hi hz0 (by rw [hz1]; simp; omega) (by rw [hz1]; omega) ?_
  rw [hz1]
  have e : (cs ++ ds) = (([.agg cs, .agg ds] : List Value).flatMap fun v => v.cells.toList).toArray := by
    apply Array.ext'
    simp [Value.cells]
  rw [e]
  exact hf
theorem exec_rowTwo21 {t e : TypeId} {k bytes : Nat} (he : ElemN P t e k bytes) {ev : Operand → Value} {o : Oper} {w : World} (x y : Operand) (ho : o.op = .buildSlice t 2 #[(0, x), (1, y)])
    (cs ds : Array Value) (hx : ev x = .agg cs) (hy : ev y = .agg ds) (hs : cs.size = k) (hd : ds.size = k) (hk : k ≤ 1000) :
    (execOp ev o).run P w = .ok (.value (.slice (some ⟨w.heap.size, 0, none⟩) 2 2)) (w.alloc (.cells (cs ++ ds) e)) := by
  unfold execOp
  simp only [ho, Sem.run_bind, List.map_toArray, List.map_cons, List.map_nil, hx, hy, run_rowTwo21 he w cs ds hs hd hk, Result.andThen_ok, Sem.run_pure]
end
def OneOf (r : Value) (w : World) (en : Ending) (w' : World) : Prop := en = .returned r ∧ Ext w w'
set_option maxHeartbeats 4000000 in
set_option maxRecDepth 100000 in
theorem number21_any (nm v : Int) (w : World) : Calls Try.prog 34 #[.int .i64 nm, .int .i64 v] w (OneOf (.agg #[.int .i64 nm, .int .i64 1, .int .i64 v, .string ByteArray.empty]) w) := by
  go_enter Try.func34, Try.ntmps34
  obtain ⟨hst, hG, hXG⟩ := box_new (P := Try.prog) w 40 #[.int .i64 0, .int .i64 0, .int .i64 0, .string ByteArray.empty] #[.int .i64 nm, .int .i64 1, .int .i64 v, .string ByteArray.empty] at_size rfl (by simp [Value.oneCell'])
  go_wp2_with first | refine wpList_store_run rfl 40 (.tmp 4) (.tmp 7) rfl _ _ _ rfl rfl hst ?_
  generalize (w.alloc (.cells #[.int .i64 0, .int .i64 0, .int .i64 0, .string ByteArray.empty] 40)).setRow w.heap.size #[.int .i64 nm, .int .i64 1, .int .i64 v, .string ByteArray.empty] = w1 at *
  obtain ⟨k0, k1, k2, k3⟩ := blkR hG
  refine bodyPost_ret (v := .agg #[.int .i64 nm, .int .i64 1, .int .i64 v, .string ByteArray.empty]) (by simp [results, Try.results34, go_sem, k0, k1, k2, k3]) rfl ?_
  exact ⟨rfl, hXG⟩
set_option maxHeartbeats 4000000 in
set_option maxRecDepth 100000 in
theorem entry21_any (d t : Int) (A : Option Addr) (n c : Nat) (w : World) : Calls Try.prog 33 #[.int .i64 d, .int .i64 t, .slice A n c] w (OneOf (.agg #[.int .i64 d, .int .i64 t, .slice A n c]) w) := by
  go_enter Try.func33, Try.ntmps33
  obtain ⟨hst, hG, hXG⟩ := box_new (P := Try.prog) w 26 #[.int .i64 0, .int .i64 0, .slice none 0 0] #[.int .i64 d, .int .i64 t, .slice A n c] en_size rfl (by simp [Value.oneCell'])
  go_wp2_with first | refine wpList_store_run rfl 26 (.tmp 6) (.tmp 10) rfl _ _ _ rfl rfl hst ?_
  generalize (w.alloc (.cells #[.int .i64 0, .int .i64 0, .slice none 0 0] 26)).setRow w.heap.size #[.int .i64 d, .int .i64 t, .slice A n c] = w1 at *
  obtain ⟨k0, k1, k2⟩ := blk3 hG
  refine bodyPost_ret (v := .agg #[.int .i64 d, .int .i64 t, .slice A n c]) (by simp [results, Try.results33, go_sem, k0, k1, k2]) rfl ?_
  exact ⟨rfl, hXG⟩
def ent21 : Ent := ⟨0, 1, [⟨2, 1, 2, ByteArray.empty⟩, ⟨3, 1, 0, ByteArray.empty⟩]⟩
def OfPost (w : World) (en : Ending) (w' : World) : Prop := ∃ y, en = .returned y ∧ Ents w' y [ent21] ∧ Ext w w'
set_option maxHeartbeats 4000000 in
set_option maxRecDepth 100000 in
theorem ofZero_any (w : World) : Calls Try.prog 19 #[.agg #[.slice none 0 0, .slice none 0 0, .slice none 0 0, .slice none 0 0], .agg #[.slice none 0 0, .int .i64 0, .slice none 0 0], .int .i64 2] w (OfPost w) := by
  go_enter Try.func19, Try.ntmps19
  go_upto_region 1 with fail
  obtain ⟨W, hW, hE, hG3, hG4⟩ : ∃ W, W = (w.alloc (.cells #[.slice none 0 0, .slice none 0 0, .slice none 0 0, .slice none 0 0] 52)).alloc (.cells #[.slice none 0 0, .int .i64 0, .slice none 0 0] 55) ∧ Ext w W ∧ W.heap[w.heap.size]? = some (.cells #[.slice none 0 0, .slice none 0 0, .slice none 0 0, .slice none 0 0] 52 (0, 0)) ∧ W.heap[w.heap.size + 1]? = some (.cells #[.slice none 0 0, .int .i64 0, .slice none 0 0] 55 (0, 0)) := ⟨_, rfl, ((Ext.refl w).alloc _).alloc _, ((Ext.refl _).alloc _).heap (heap_alloc_new w _), by have := heap_alloc_new (w.alloc (.cells #[.slice none 0 0, .slice none 0 0, .slice none 0 0, .slice none 0 0] 52)) (.cells #[.slice none 0 0, .int .i64 0, .slice none 0 0] 55); simpa using this⟩
  rw [← hW]
  clear hW
  obtain ⟨g4, hg4⟩ : ∃ g, g = w.heap.size + 1 := ⟨_, rfl⟩
  obtain ⟨g3, hg3⟩ : ∃ g, g = w.heap.size := ⟨_, rfl⟩
  rw [← hg4] at hG4 ⊢
  rw [← hg3] at hG3 ⊢
  clear hg3 hg4
  obtain ⟨u0, u1, u2⟩ := blk3 hG4
  refine wp_region_X #[true, true, true, true, true, true, true, true, false] 8 1 (by kernel_rfl) rfl ?_
  refine wpX_vt 0 (.int .i64 2) rfl rfl (by kernel_rfl) (by kernel_rfl) (by kernel_rfl) (fun _ _ _ _ h => h) (by kernel_rfl) rfl (by rfl) (fun W' hW => by
    skip
    go_simp) ?_
  simp only [List.setIfInBounds_toArray, List.set_cons_zero, List.set_cons_succ]
  refine wpX_vt 2 (.pointer (some ⟨g4, 1, none⟩)) rfl rfl (by kernel_rfl) (by kernel_rfl) (by kernel_rfl) (fun _ _ _ _ h => h) (by kernel_rfl) rfl (by rfl) (fun W' hW => by
    skip
    go_simp) ?_
  simp only [List.setIfInBounds_toArray, List.set_cons_zero, List.set_cons_succ]
  refine wpX_vt 3 (.int .i64 0) rfl rfl (by kernel_rfl) (by kernel_rfl) (by kernel_rfl) (fun _ _ _ _ h => h) (by kernel_rfl) rfl (by rfl) (fun W' hW => by
    have z := (((Ext.refl W).drew).trans hW).cell u1
    go_simp) ?_
  simp only [List.setIfInBounds_toArray, List.set_cons_zero, List.set_cons_succ]
  refine wpX_c 1 34 #[.int .i64 2, .int .i64 2] rfl rfl (by kernel_rfl) rfl rfl (fun W => by go_simp) ?_
  intro W1 hW1
  refine (number21_any 2 2 W1).mono ?_
  rintro en w1 ⟨rfl, he1⟩
  refine ⟨_, rfl, he1, ?_⟩
  simp only [List.setIfInBounds_toArray, List.set_cons_zero, List.set_cons_succ]
  have hX1 := (((Ext.refl W).drew).trans hW1).trans he1
  refine wpX_c 4 34 #[.int .i64 3, .int .i64 0] rfl rfl (by kernel_rfl) rfl rfl (fun W => by go_simp) ?_
  intro W2 hW2
  refine (number21_any 3 0 W2).mono ?_
  rintro en w2 ⟨rfl, he2⟩
  refine ⟨_, rfl, he2, ?_⟩
  simp only [List.setIfInBounds_toArray, List.set_cons_zero, List.set_cons_succ]
  have hX2 := (hX1.trans hW2).trans he2
  clear hX1 hW1 he1 hW2 he2
  refine wpX_m 5 rfl rfl (by kernel_rfl) rfl (by rfl) fun W3 hW3 => ?_
  have hA3 := (Ext.refl W3).alloc (.cells #[.int .i64 2, .int .i64 1, .int .i64 2, .string ByteArray.empty, .int .i64 3, .int .i64 1, .int .i64 0, .string ByteArray.empty] 40)
  refine ⟨.slice (some ⟨W3.heap.size, 0, none⟩) 2 2, W3.alloc (.cells #[.int .i64 2, .int .i64 1, .int .i64 2, .string ByteArray.empty, .int .i64 3, .int .i64 1, .int .i64 0, .string ByteArray.empty] 40), exec_rowTwo21 elem_at (.tmp 14) (.tmp 17) rfl #[.int .i64 2, .int .i64 1, .int .i64 2, .string ByteArray.empty] #[.int .i64 3, .int .i64 1, .int .i64 0, .string ByteArray.empty] rfl rfl rfl rfl (by omega), hA3, ?_⟩
  simp only [List.setIfInBounds_toArray, List.set_cons_zero, List.set_cons_succ]
  have hB3 := heap_alloc_new W3 (.cells #[.int .i64 2, .int .i64 1, .int .i64 2, .string ByteArray.empty, .int .i64 3, .int .i64 1, .int .i64 0, .string ByteArray.empty] 40)
  obtain ⟨g5, hg5⟩ : ∃ g, g = W3.heap.size := ⟨_, rfl⟩
  rw [← hg5] at hB3 ⊢
  have hX3 := (hX2.trans hW3).trans hA3
  clear hX2 hW3 hA3 hg5
  generalize W3.alloc (.cells #[.int .i64 2, .int .i64 1, .int .i64 2, .string ByteArray.empty, .int .i64 3, .int .i64 1, .int .i64 0, .string ByteArray.empty] 40) = W4 at *
  refine wpX_c 6 33 #[.int .i64 0, .int .i64 1, .slice (some ⟨g5, 0, none⟩) 2 2] rfl rfl (by kernel_rfl) rfl rfl (fun W => by go_simp) ?_
  intro W5 hW5
  refine (entry21_any 0 1 _ 2 2 W5).mono ?_
  rintro en w5 ⟨rfl, he5⟩
  refine ⟨_, rfl, he5, ?_⟩
  simp only [List.setIfInBounds_toArray, List.set_cons_zero, List.set_cons_succ]
  have hX5 := (hX3.trans hW5).trans he5
  replace hB3 := (hW5.trans he5).heap hB3
  clear hX3 hW5 he5
  refine wpX_m 7 rfl rfl (by kernel_rfl) rfl (by rfl) fun W6 hW6 => ?_
  have hA6 := (Ext.refl W6).alloc (.cells #[.int .i64 0, .int .i64 1, .slice (some ⟨g5, 0, none⟩) 2 2] 26)
  refine ⟨.slice (some ⟨W6.heap.size, 0, none⟩) 1 1, W6.alloc (.cells #[.int .i64 0, .int .i64 1, .slice (some ⟨g5, 0, none⟩) 2 2] 26), by go_simp, hA6, ?_⟩
  simp only [List.setIfInBounds_toArray, List.set_cons_zero, List.set_cons_succ]
  have hB6 := heap_alloc_new W6 (.cells #[.int .i64 0, .int .i64 1, .slice (some ⟨g5, 0, none⟩) 2 2] 26)
  obtain ⟨g6, hg6⟩ : ∃ g, g = W6.heap.size := ⟨_, rfl⟩
  rw [← hg6] at hB6 ⊢
  have hX6 := (hX5.trans hW6).trans hA6
  replace hB3 := (hW6.trans hA6).heap hB3
  clear hX5 hW6 hA6 hg6
  generalize W6.alloc (.cells #[.int .i64 0, .int .i64 1, .slice (some ⟨g5, 0, none⟩) 2 2] 26) = W7 at *
  refine wpX_end rfl fun W8 hW8 => tail_seq 8 rfl (by kernel_rfl) ?_
  simp only [List.drop_succ_cons, List.drop_zero]
  have hX8 := hX6.trans hW8
  have hB3' := hW8.heap hB3
  have hB6' := hW8.heap hB6
  have hN : Ents W8 (.slice (some ⟨g6, 0, none⟩) 1 1) [ent21] := by
    refine ⟨[(ent21, .slice (some ⟨g5, 0, none⟩) 2 2)], rfl, ⟨_, 1, rfl, Nat.le_refl _, Rd_blk hB6'⟩, fun z hz => ?_⟩
    simp only [List.mem_singleton] at hz
    subst hz
    exact ⟨_, 2, rfl, Nat.le_refl _, Rd_blk hB3'⟩
  have hXX := hE.trans hX8
  replace hG3 := hX8.heap hG3
  replace hG4 := hX8.heap hG4
  clear hX6 hW8 hB3 hB6 hB3' hB6' hX8 hE u0 u1 u2
  obtain ⟨u0, u1, u2⟩ := blk3 hG4
  obtain ⟨s0, s1, s2, s3⟩ := blkR hG3
  go_wp2_with fail
  refine NoPanic.normal ?_
  go_wp2_with fail
  go_loopw [7, 34] (fun v i wr => v = .slice (some ⟨g6, 0, none⟩) 1 1 ∧ i = .int .i64 0 ∧ wr = W8) (fun _ _ _ => 0)
  case atStart => exact ⟨rfl, rfl, rfl⟩
  case round =>
    obtain ⟨rfl, rfl, rfl⟩ := hrel
    go_wp2_with fail
    go_loopw [7, 66] (fun v i wq => v = .slice (some ⟨g6, 0, none⟩) 1 1 ∧ i = .int .i64 0 ∧ wq = wr) (fun _ _ _ => 0)
    case atStart => exact ⟨rfl, rfl, rfl⟩
    case round =>
      obtain ⟨rfl, rfl, rfl⟩ := hrel
      go_wp2_with fail
      go_ret
      exact ⟨_, rfl, hN, hXX⟩
end Go.Proofs.Ytopanbcodfkedaa
