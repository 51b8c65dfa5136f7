/- LinesShort: the walk. -/
import Derived.Test.YtokmbdeafjmcjaaLinM
namespace Go.Proofs.Ytokmbdeafjmcjaa
open Go.RowKit
set_option linter.unusedVariables false

section
variable {P : Program}
/-- two structs as a row -/
theorem run_rowTwo {t e : TypeId} {k bytes : Nat} (he : ElemN P t e k bytes) (w : World) (cs ds : Array Value) (hs : cs.size = k) (hd : ds.size = k) (hk : k ≤ 1000) :
    (Instr.buildSlice t 2 #[(0, .agg cs), (1, .agg ds)]).run P w = .ok (.slice (some ⟨w.heap.size, 0, none⟩) 2 2) (w.alloc (.cells (cs ++ ds) e)) := by
  obtain ⟨i, z, hi, hz0, hz1, hz2, hzc⟩ := he.info
  have hp := he.pos
  have hf := Great.fill_whole (s := k) hp [.agg cs, .agg ds] ((Array.range (2 * k)).map (z.cells[· % z.cells.size]!)) (fun v hv => by simp only [List.mem_cons, List.not_mem_nil, or_false] at hv; rcases hv with rfl | rfl <;> assumption) (by simp)
  refine run_buildSlice w t e 2 _ (cs ++ ds) i z he.slice hi hz0 (by rw [hz1]; simp; omega) (by rw [hz1]; omega) ?_
  rw [hz1]
  have e : (cs ++ ds) = (([.agg cs, .agg ds] : List Value).flatMap fun v => v.cells.toList).toArray := by
    apply Array.ext'
    simp [Value.cells]
  rw [e]
  exact hf
theorem wpList_rowTwo {t e : TypeId} {k bytes : Nat} (he : ElemN P t e k bytes) {ops : Array Oper} {rest : List Oper} {o : Oper} {a : Act} {w : World} {Q : Exit → Act → World → Prop} (hg : o.guard = none) (x y : Operand) (ho : o.op = .buildSlice t 2 #[(0, x), (1, y)])
    (cs ds : Array Value) (hx : a.eval x = .agg cs) (hy : a.eval y = .agg ds) (hs : cs.size = k) (hd : ds.size = k) (hk : k ≤ 1000)
    (h : wpList P ops Q rest (a.put o.dst (.slice (some ⟨w.heap.size, 0, none⟩) 2 2)) (w.alloc (.cells (cs ++ ds) e))) : wpList P ops Q (o :: rest) a w := by
  refine wpList_run hg _ ?_ h
  unfold execOp
  simp only [ho, Sem.run_bind, List.map_toArray, List.map_cons, List.map_nil, hx, hy, run_rowTwo he w cs ds hs hd hk, Result.andThen_ok, Sem.run_pure]
end
def tabX : LTab := ⟨0, 100, [⟨0, 0, 4, true⟩]⟩
def tabY (a s : Int) : LTab := ⟨0, 100, [⟨0, 0, 4, true⟩, ⟨a, 0, 4 + s, true⟩]⟩
theorem tabX_right : RightL [tabX] := by
  refine ⟨by simp, ⟨?_, ?_, trivial⟩, by simp [rowsN, tabX]⟩
  · simp [okTab, tabX]
  · refine ⟨⟨by simp [tabX], by simp⟩, trivial⟩
theorem tabY_right {a s : Int} (ha : 1 ≤ a ∧ a ≤ 29) (hs : -2 ≤ s ∧ s ≤ 5) : RightL [tabY a s] := by
  refine ⟨by simp, ⟨?_, ?_, trivial⟩, by simp [rowsN, tabY]⟩
  · simp [okTab, tabY]
  · refine ⟨⟨by simp [tabY], by simp⟩, ⟨⟨by simp only [tabY]; omega, by simp only; omega⟩, trivial⟩⟩
theorem tabX_enc : encTabs [tabX] = [1] ++ ([0] ++ ([100] ++ ([oneB 0 5] ++ [0]))) := by
  have h1 : uintB ((0 + 1 : Nat) : Int) = [1] := uintB_small (n := 1) (by omega)
  have h0 : uintB 0 = [0] := uintB_small (n := 0) (by omega)
  have h9 : uintB 100 = [100] := uintB_small (n := 100) (by omega)
  simp only [encTabs, List.length_cons, List.length_nil, List.flatMap_cons, List.flatMap_nil, encTab, tabX, encRows, encRow, row0, ctxB, List.append_nil]
  rw [show (if True then ([] : List UInt8) else 2 :: uintB 0) = [] from rfl, if_pos (show shortR (0 - 0) (4 - -1) true by decide), h1, h0, h9]
  rfl
theorem tabY_enc {a s : Int} (ha : 1 ≤ a ∧ a ≤ 29) (hs : -2 ≤ s ∧ s ≤ 5) : (encTabs [tabY a s]).length = 6 := by
  have h1 : uintB ((0 + 1 : Nat) : Int) = [1] := uintB_small (n := 1) (by omega)
  have h0 : uintB 0 = [0] := uintB_small (n := 0) (by omega)
  have h9 : uintB 100 = [100] := uintB_small (n := 100) (by omega)
  have e1 : shortR (a - 0) (4 + s - 4) true := ⟨rfl, by omega, by omega, by omega⟩
  have e0 : shortR (0 - 0) (4 - -1) true := by decide
  simp only [encTabs, List.length_cons, List.length_nil, List.flatMap_cons, List.flatMap_nil, encTab, tabY, encRows, encRow, row0, ctxB, List.append_nil]
  rw [if_pos e0, if_pos e1, h1, h0, h9]
  rfl
theorem EncL_of {l : List LTab} (h : RightL l) (hl : (encTabs l).length ≤ 60000) : EncL l = encTabs l := by unfold EncL; rw [if_pos h, if_pos hl]
set_option maxHeartbeats 4000000 in
set_option maxRecDepth 100000 in
theorem short_walk (da ds : Int) (w : World) : Calls Try.prog 8 #[.int .i64 da, .int .i64 ds] w fun en w' => en = .returned (.bool true) ∧ Ext w w' := by
  go_enter Try.func8, Try.ntmps8
  go_wp2_with fail
  refine (Mod_any da 29 w (by omega) (by omega)).mono ?_
  rintro en wm ⟨rfl, rfl⟩
  obtain ⟨a, ha, har⟩ : ∃ a : Int, IntKind.i64.wrap (da % 29 + 1) = a ∧ 1 ≤ a ∧ a ≤ 29 := ⟨da % 29 + 1, by rw [IntKind.wrap_i64]; omega, by omega, by omega⟩
  go_wp2_with fail
  refine (Mod_any ds 8 w (by omega) (by omega)).mono ?_
  rintro en wm ⟨rfl, rfl⟩
  obtain ⟨s, hs, hsr⟩ : ∃ s : Int, IntKind.i64.wrap (ds % 8 - 2) = s ∧ -2 ≤ s ∧ s ≤ 5 := ⟨ds % 8 - 2, by rw [IntKind.wrap_i64]; omega, by omega, by omega⟩
  go_upto_region 2 with fail
  clear ha hs
  have hB0 := heap_alloc_new w (.cells #[.int .i64 0, .int .i64 0, .int .i64 4, .bool true] 53)
  have hE0 := (Ext.refl w).alloc (.cells #[.int .i64 0, .int .i64 0, .int .i64 4, .bool true] 53)
  have hB1 := heap_alloc_new (w.alloc (.cells #[.int .i64 0, .int .i64 0, .int .i64 4, .bool true] 53)) (.cells #[.int .i64 0, .int .i64 100, .slice (some ⟨w.heap.size, 0, none⟩) 1 1] 46)
  have hE1 := hE0.alloc (.cells #[.int .i64 0, .int .i64 100, .slice (some ⟨w.heap.size, 0, none⟩) 1 1] 46)
  have hB01 := ((Ext.refl _).alloc (.cells #[.int .i64 0, .int .i64 100, .slice (some ⟨w.heap.size, 0, none⟩) 1 1] 46)).heap hB0
  have hLX : LTabs ((w.alloc (.cells #[.int .i64 0, .int .i64 0, .int .i64 4, .bool true] 53)).alloc (.cells #[.int .i64 0, .int .i64 100, .slice (some ⟨w.heap.size, 0, none⟩) 1 1] 46)) (.slice (some ⟨(w.alloc (.cells #[.int .i64 0, .int .i64 0, .int .i64 4, .bool true] 53)).heap.size, 0, none⟩) 1 1) [tabX] := one_tab (t := tabX) hB1 (Rd_blk hB01)
  have hsz : (w.alloc (.cells #[.int .i64 0, .int .i64 0, .int .i64 4, .bool true] 53)).heap.size = w.heap.size + 1 := by simp
  rw [hsz] at hLX
  go_upto_region 3 with first | refine wpList_rowOne elem_rw rfl (.tmp 15) rfl #[.int .i64 0, .int .i64 0, .int .i64 4, .bool true] rfl rfl (by omega) ?_ | refine wpList_rowOne elem_lt rfl (.tmp 17) rfl #[.int .i64 0, .int .i64 100, .slice (some ⟨w.heap.size, 0, none⟩) 1 1] rfl rfl (by omega) ?_
  generalize (w.alloc (.cells #[.int .i64 0, .int .i64 0, .int .i64 4, .bool true] 53)).alloc (.cells #[.int .i64 0, .int .i64 100, .slice (some ⟨w.heap.size, 0, none⟩) 1 1] 46) = W at *
  clear hB0 hE0 hB1 hB01 hsz
  have ht : IntKind.i64.wrap (4 + s) = 4 + s := by rw [IntKind.wrap_i64]; omega
  have hB0 := heap_alloc_new W (.cells #[.int .i64 0, .int .i64 0, .int .i64 4, .bool true, .int .i64 a, .int .i64 0, .int .i64 (4 + s), .bool true] 53)
  have hE0 := (Ext.refl W).alloc (.cells #[.int .i64 0, .int .i64 0, .int .i64 4, .bool true, .int .i64 a, .int .i64 0, .int .i64 (4 + s), .bool true] 53)
  have hB1 := heap_alloc_new (W.alloc (.cells #[.int .i64 0, .int .i64 0, .int .i64 4, .bool true, .int .i64 a, .int .i64 0, .int .i64 (4 + s), .bool true] 53)) (.cells #[.int .i64 0, .int .i64 100, .slice (some ⟨W.heap.size, 0, none⟩) 2 2] 46)
  have hE2 := hE0.alloc (.cells #[.int .i64 0, .int .i64 100, .slice (some ⟨W.heap.size, 0, none⟩) 2 2] 46)
  have hB01 := ((Ext.refl _).alloc (.cells #[.int .i64 0, .int .i64 100, .slice (some ⟨W.heap.size, 0, none⟩) 2 2] 46)).heap hB0
  have hLY : LTabs ((W.alloc (.cells #[.int .i64 0, .int .i64 0, .int .i64 4, .bool true, .int .i64 a, .int .i64 0, .int .i64 (4 + s), .bool true] 53)).alloc (.cells #[.int .i64 0, .int .i64 100, .slice (some ⟨W.heap.size, 0, none⟩) 2 2] 46)) (.slice (some ⟨(W.alloc (.cells #[.int .i64 0, .int .i64 0, .int .i64 4, .bool true, .int .i64 a, .int .i64 0, .int .i64 (4 + s), .bool true] 53)).heap.size, 0, none⟩) 1 1) [tabY a s] := one_tab (t := tabY a s) hB1 (by have h := Rd_blk hB01; have e : (#[.int .i64 0, .int .i64 0, .int .i64 4, .bool true, .int .i64 a, .int .i64 0, .int .i64 (4 + s), .bool true] : Array Value).toList = (tabY a s).rows.flatMap lrowCells := rfl; rw [e] at h; exact h)
  have hsz : (W.alloc (.cells #[.int .i64 0, .int .i64 0, .int .i64 4, .bool true, .int .i64 a, .int .i64 0, .int .i64 (4 + s), .bool true] 53)).heap.size = W.heap.size + 1 := by simp
  rw [hsz] at hLY
  go_upto_region 4 with first | refine wpList_rowTwo elem_rw rfl (.tmp 19) (.tmp 23) rfl #[.int .i64 0, .int .i64 0, .int .i64 4, .bool true] #[.int .i64 a, .int .i64 0, .int .i64 (4 + s), .bool true] rfl rfl rfl rfl (by omega) ?_ | refine wpList_rowOne elem_lt rfl (.tmp 25) rfl #[.int .i64 0, .int .i64 100, .slice (some ⟨W.heap.size, 0, none⟩) 2 2] rfl rfl (by omega) ?_
  have hLX2 := hLX.ext hE2
  have hX2 := hE1.trans hE2
  generalize (W.alloc (.cells #[.int .i64 0, .int .i64 0, .int .i64 4, .bool true, .int .i64 a, .int .i64 0, .int .i64 (4 + s), .bool true] 53)).alloc (.cells #[.int .i64 0, .int .i64 100, .slice (some ⟨W.heap.size, 0, none⟩) 2 2] 46) = V at *
  clear hB0 hE0 hB1 hB01 hsz hLX hE1 hE2 ht
  have HX := Lib.hid hLX2
  have HY := Lib.hid hLY
  have hyr := tabY_right har hsr
  have hyl := tabY_enc har hsr
  have hye := EncL_of hyr (by omega)
  have hxl : (encTabs [tabX]).length = 5 := by rw [tabX_enc]; rfl
  have hxe := EncL_of tabX_right (by omega)
  obtain ⟨LX, hLXe⟩ : ∃ L, L = [tabX] := ⟨_, rfl⟩
  obtain ⟨LY, hLYe⟩ : ∃ L, L = [tabY a s] := ⟨_, rfl⟩
  have hXI : ∀ t ∈ LX, t.I := fun t ht => by rw [hLXe] at ht; exact tabX_right.I ht
  have hYI : ∀ t ∈ LY, t.I := fun t ht => by rw [hLYe] at ht; exact hyr.I ht
  have hXn : LX.length ≤ 9223372036854775807 := by rw [hLXe]; simp
  have hYn : LY.length ≤ 9223372036854775807 := by rw [hLYe]; simp
  rw [← hLXe] at hLX2 hxe hxl
  rw [← hLYe] at hLY hye hyl
  have hx5 : (EncL LX).length = 5 := by rw [hxe]; exact hxl
  have hy6 : (EncL LY).length = 6 := by rw [hye]; exact hyl
  have HX5 := Lib.hid hx5
  have HY6 := Lib.hid hy6
  clear hLXe hLYe hxe hye hxl hyl hyr HX HY hx5 hy6
  have HLX := Lib.hid hLX2
  have HLY := Lib.hid hLY
  have HXI := Lib.hid hXI
  have HYI := Lib.hid hYI
  clear hLX2 hLY hXI hYI
  go_wp2_with fail
  refine (Encode_any LY _ V HLY.out HYI.out hYn).mono ?_
  rintro en w1 ⟨y1, rfl, ho1, hx1⟩
  obtain ⟨A1, c1, hv1, _, _⟩ := ho1.inV
  rw [HY6.out] at hv1
  subst hv1
  go_wp2_with fail
  refine (Encode_any LX _ w1 (HLX.out.ext hx1) HXI.out hXn).mono ?_
  rintro en w2 ⟨y2, rfl, ho2, hx2⟩
  obtain ⟨A2, c2, hv2, _, _⟩ := ho2.inV
  rw [HX5.out] at hv2
  subst hv2
  have hX12 := hx1.trans hx2
  clear ho1 ho2
  go_wp2_with fail
  refine (Encode_any LX _ w2 (HLX.out.ext hX12) HXI.out hXn).mono ?_
  rintro en w3 ⟨y3, rfl, ho3, hx3⟩
  obtain ⟨A3, c3, hv3, _, _⟩ := ho3.inV
  rw [HX5.out] at hv3
  subst hv3
  clear ho3
  go_wp2_with fail
  refine (known18_any w3).mono ?_
  rintro en w4 ⟨rfl, hx4⟩
  go_wp2_with fail
  go_ret
  exact ⟨rfl, hX2.trans (hX12.trans (hx3.trans hx4))⟩
end Go.Proofs.Ytokmbdeafjmcjaa
