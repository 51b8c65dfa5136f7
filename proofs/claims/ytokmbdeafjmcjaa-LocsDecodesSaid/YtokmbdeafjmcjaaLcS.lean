/- Comparisons of location lists with themselves. Printed by mklocsame.py. -/
import Derived.Test.YtokmbdeafjmcjaaLcE
import Derived.Test.YtokmbdeafjmcjaaRegion5
namespace Go.Proofs.Ytokmbdeafjmcjaa
open Go.RowKit
set_option linter.unusedVariables false
set_option linter.unusedSimpArgs false

theorem exec_store19 {P : Program} {W W' : World} {e : Operand → Value} {op : Oper} (ty : TypeId) (x y : Operand) (ho : op.op = .store ty x y) (v u : Value) (hx : e x = v) (hy : e y = u) (hr : (Instr.storeAt ty v u).run P W = .ok () W') : (execOp e op).run P W = .ok .skip W' := by
  unfold execOp
  simp only [ho, hx, hy, Sem.run_bind, hr, Result.andThen_ok, Sem.run_pure]
theorem two_box {P : Program} {W : World} {g6 g7 : Nat} {T : TypeId} {z c1 c2 : Array Value} (h6 : W.heap[g6]? = some (.cells z T (0, 0))) (h7 : W.heap[g7]? = some (.cells z T (0, 0)))
    (hi : (P.info? T).map (·.size) = some z.size) (s1 : z.size = c1.size) (s2 : z.size = c2.size) (o1 : c1.all (·.oneCell') = true) (o2 : c2.all (·.oneCell') = true) :
    ∃ (W1 W2 : World) (ca : Array Value), (Instr.storeAt T (.pointer (some ⟨g6, 0, none⟩)) (.agg c1)).run P W = .ok () W1 ∧ (Instr.storeAt T (.pointer (some ⟨g7, 0, none⟩)) (.agg c2)).run P W1 = .ok () W2 ∧
      W2.heap[g6]? = some (.cells ca T (0, 0)) ∧ W2.heap[g7]? = some (.cells c2 T (0, 0)) ∧ (ca = c1 ∨ ca = c2) ∧ ∀ w, Ext w W → w.heap.size ≤ g6 → w.heap.size ≤ g7 → Ext w W1 ∧ Ext w W2 := by
  have r1 := run_storeAt_blk (P := P) W g6 T T _ c1 h6 (by rw [hi, s1]) s1 o1
  have b1 := setRow_heap W g6 _ c1 _ _ h6
  have x1 := gsetRow W g6 c1
  by_cases e : g7 = g6
  · subst e
    have r2 := run_storeAt_blk (P := P) (W.setRow g7 c1) g7 T T _ c2 b1 (by rw [hi, s2]) (by rw [← s1, s2]) o2
    have b2 := setRow_heap (W.setRow g7 c1) g7 _ c2 _ _ b1
    have x2 := gsetRow (W.setRow g7 c1) g7 c2
    exact ⟨_, _, c2, r1, r2, b2, b2, .inr rfl, fun w hX hl _ => ⟨hX.grown x1 (fun k e => by cases e; exact hl), (hX.grown x1 (fun k e => by cases e; exact hl)).grown x2 (fun k e => by cases e; exact hl)⟩⟩
  · have h7' := blk_grown h7 x1 (fun ee => e (by cases ee; rfl))
    have r2 := run_storeAt_blk (P := P) (W.setRow g6 c1) g7 T T _ c2 h7' (by rw [hi, s2]) s2 o2
    have b2 := setRow_heap (W.setRow g6 c1) g7 _ c2 _ _ h7'
    have x2 := gsetRow (W.setRow g6 c1) g7 c2
    exact ⟨_, _, c1, r1, r2, blk_grown b1 x2 (fun ee => e (by cases ee; rfl)), b2, .inl rfl, fun w hX hl hl2 => ⟨hX.grown x1 (fun k e => by cases e; exact hl), (hX.grown x1 (fun k e => by cases e; exact hl)).grown x2 (fun k e => by cases e; exact hl2)⟩⟩
set_option maxHeartbeats 4000000 in
set_option maxRecDepth 100000 in
theorem placesSelf_any (u v : Value) (l : List Plc) (w : World) (hu : InR plcCells w u l) (hv : InR plcCells w v l) (hl : l.length ≤ 1000000000) :
    Calls Try.prog 108 #[u, v] w fun en w' => en = .returned (.bool true) ∧ Ext w w' := by
  obtain ⟨A, c, rfl, _, _⟩ := id hu
  obtain ⟨B, d, rfl, _, _⟩ := id hv
  go_enter Try.func108, Try.ntmps108
  go_wp2_with fail
  go_loopw [5] (fun i wr => ∃ j : Nat, j ≤ l.length ∧ i = .int .i64 (j : Int) ∧ Ext w wr) (fun i _ => l.length - (intOf i).toNat)
  case atStart => exact ⟨0, by omega, rfl, Ext.refl _⟩
  case round =>
    obtain ⟨j, hj, rfl, hX⟩ := hrel
    obtain ⟨wo, rfl⟩ : ∃ wo : World, wo = wr := ⟨_, rfl⟩
    by_cases hlt : j < l.length
    · have hij : (j : Int) < (l.length : Int) := by omega
      obtain ⟨b1, o1, rfl, h1⟩ := (hu.ext hX).at_ (k := 3) (fun _ _ => rfl) (by omega) hlt
      obtain ⟨b2, o2, rfl, h2⟩ := (hv.ext hX).at_ (k := 3) (fun _ _ => rfl) (by omega) hlt
      generalize l[j] = r at *
      go_upto_region 6 with fail
      refine wp_region_X #[true, true, true, true, true, true, true, true, true] 9 0 (by kernel_rfl) rfl ?_
      refine wpX_v 0 (.slice (some ⟨b1, o1, none⟩) l.length c) rfl rfl (by kernel_rfl) (by kernel_rfl) (by kernel_rfl) (fun _ _ _ _ h => h) (by kernel_rfl) rfl (by rfl) (fun W' hW => by
        skip
        go_simp) ?_
      simp only [List.setIfInBounds_toArray, List.set_cons_zero, List.set_cons_succ]
      refine wpX_v 1 (.int .i64 (j : Int)) rfl rfl (by kernel_rfl) (by kernel_rfl) (by kernel_rfl) (fun _ _ _ _ h => h) (by kernel_rfl) rfl (by rfl) (fun W' hW => by
        skip
        go_simp) ?_
      simp only [List.setIfInBounds_toArray, List.set_cons_zero, List.set_cons_succ]
      refine wpX_v 2 (.pointer (some ⟨b1, o1 + j * 3, none⟩)) rfl rfl (by kernel_rfl) (by kernel_rfl) (by kernel_rfl) (fun _ _ _ _ h => h) (by kernel_rfl) rfl (by rfl) (fun W' hW => by
        skip
        go_simp) ?_
      simp only [List.setIfInBounds_toArray, List.set_cons_zero, List.set_cons_succ]
      refine wpX_v 3 (.agg #[.int .i64 r.kind, .int .i64 r.n, .int .i64 r.add]) rfl rfl (by kernel_rfl) (by kernel_rfl) (by kernel_rfl) (fun _ _ _ _ h => h) (by kernel_rfl) rfl (by rfl) (fun W' hW => exec_load19 75 (.tmp 19) rfl _ _ rfl (plc_load (fun i u hu => (((Ext.refl wo).drew).trans hW).cell (h1 i u hu)))) ?_
      simp only [List.setIfInBounds_toArray, List.set_cons_zero, List.set_cons_succ]
      refine wpX_v 4 (.slice (some ⟨b2, o2, none⟩) l.length d) rfl rfl (by kernel_rfl) (by kernel_rfl) (by kernel_rfl) (fun _ _ _ _ h => h) (by kernel_rfl) rfl (by rfl) (fun W' hW => by
        skip
        go_simp) ?_
      simp only [List.setIfInBounds_toArray, List.set_cons_zero, List.set_cons_succ]
      refine wpX_v 5 (.int .i64 (j : Int)) rfl rfl (by kernel_rfl) (by kernel_rfl) (by kernel_rfl) (fun _ _ _ _ h => h) (by kernel_rfl) rfl (by rfl) (fun W' hW => by
        skip
        go_simp) ?_
      simp only [List.setIfInBounds_toArray, List.set_cons_zero, List.set_cons_succ]
      refine wpX_v 6 (.pointer (some ⟨b2, o2 + j * 3, none⟩)) rfl rfl (by kernel_rfl) (by kernel_rfl) (by kernel_rfl) (fun _ _ _ _ h => h) (by kernel_rfl) rfl (by rfl) (fun W' hW => by
        skip
        go_simp) ?_
      simp only [List.setIfInBounds_toArray, List.set_cons_zero, List.set_cons_succ]
      refine wpX_v 7 (.agg #[.int .i64 r.kind, .int .i64 r.n, .int .i64 r.add]) rfl rfl (by kernel_rfl) (by kernel_rfl) (by kernel_rfl) (fun _ _ _ _ h => h) (by kernel_rfl) rfl (by rfl) (fun W' hW => exec_load19 75 (.tmp 23) rfl _ _ rfl (plc_load (fun i u hu => (((Ext.refl wo).drew).trans hW).cell (h2 i u hu)))) ?_
      simp only [List.setIfInBounds_toArray, List.set_cons_zero, List.set_cons_succ]
      refine wpX_v 8 (.bool false) rfl rfl (by kernel_rfl) (by kernel_rfl) (by kernel_rfl) (fun _ _ _ _ h => h) (by kernel_rfl) rfl (by rfl) (fun W' hW => by
        skip
        go_simp) ?_
      simp only [List.setIfInBounds_toArray, List.set_cons_zero, List.set_cons_succ]
      refine wpX_end rfl fun W5 hW5 => tail_none (by kernel_rfl) ?_
      refine NoPanic.normal ?_
      have hX5 := hX.trans (((Ext.refl wo).drew).trans hW5)
      go_wp2_with fail
      go_roundw
      case rel => exact ⟨j + 1, by omega, by go_num, hX5⟩
      case measure => simp [intOf]; omega
    · have hij : ¬ (j : Int) < (l.length : Int) := by omega
      go_wp2_with fail
      go_ret
      exact ⟨rfl, hX⟩
set_option maxHeartbeats 40000000 in
set_option maxRecDepth 100000 in
theorem rangesSelf_any (u v : Value) (l : List Rng) (w : World) (hu : RngsIn w u l) (hv : RngsIn w v l) (hl : l.length ≤ 1000000000) (hr : ∀ r ∈ l, r.places.length ≤ 1000000000) :
    Calls Try.prog 91 #[u, v] w fun en w' => en = .returned (.bool true) ∧ Ext w w' := by
  obtain ⟨A, c, rfl⟩ := hu.form
  obtain ⟨B, d, rfl⟩ := hv.form
  have HU := Lib.hid hu
  have HV := Lib.hid hv
  clear hu hv
  go_enter Try.func91, Try.ntmps91
  go_wp2_with fail
  go_loopw [5] (fun i wr => ∃ j : Nat, j ≤ l.length ∧ i = .int .i64 (j : Int) ∧ Ext w wr) (fun i _ => l.length - (intOf i).toNat)
  case atStart => exact ⟨0, by omega, rfl, Ext.refl _⟩
  case round =>
    obtain ⟨j, hj, rfl, hX⟩ := hrel
    obtain ⟨wo, rfl⟩ : ∃ wo : World, wo = wr := ⟨_, rfl⟩
    by_cases hlt : j < l.length
    · have hij : (j : Int) < (l.length : Int) := by omega
      obtain ⟨b1, o1, y1, rfl, h1, k1⟩ := (HU.out.ext hX).at_ hlt
      obtain ⟨b2, o2, y2, rfl, h2, k2⟩ := (HV.out.ext hX).at_ hlt
      have hrK := hr _ (List.getElem_mem hlt)
      generalize l[j] = r at *
      obtain ⟨R1, cr1, rfl, _, _⟩ := id k1
      obtain ⟨R2, cr2, rfl, _, _⟩ := id k2
      obtain ⟨np, hnp⟩ : ∃ n, n = r.places.length := ⟨_, rfl⟩
      rw [← hnp] at h1 h2 k1 k2
      have HNP := Lib.hid hnp
      have K1 := Lib.hid k1
      have K2 := Lib.hid k2
      clear k1 k2 hnp
      go_upto_region 6 with fail
      have hS : (fun (_ : Nat → Bool) (W : World) => Ext wo W) (upF [] #[false, false, false, false, false, false, false, false, false, false, false, false]) wo.drew := (Ext.refl wo).drew
      refine wp_region_V [] (fun _ W => Ext wo W) 12 #[false, false, false, false, false, false, false, false, false, false, false, false] (by kernel_rfl) rfl (by kernel_rfl) ?_
      refine wpV_v 0 (.slice (some ⟨b1, o1, none⟩) l.length c) rfl rfl (by kernel_rfl) (by kernel_rfl) (by kernel_rfl) (fun _ _ _ _ h => h) (by kernel_rfl) hS rfl (fun W' f hW hf => by
        skip
        go_simp) (fun hS' => ?_)
      replace hS := hS'; clear hS'
      simp only [List.setIfInBounds_toArray, List.set_cons_zero, List.set_cons_succ] at hS ⊢
      refine wpV_v 1 (.int .i64 (j : Int)) rfl rfl (by kernel_rfl) (by kernel_rfl) (by kernel_rfl) (fun _ _ _ _ h => h) (by kernel_rfl) hS rfl (fun W' f hW hf => by
        skip
        go_simp) (fun hS' => ?_)
      replace hS := hS'; clear hS'
      simp only [List.setIfInBounds_toArray, List.set_cons_zero, List.set_cons_succ] at hS ⊢
      refine wpV_v 2 (.pointer (some ⟨b1, o1 + j * 6, none⟩)) rfl rfl (by kernel_rfl) (by kernel_rfl) (by kernel_rfl) (fun _ _ _ _ h => h) (by kernel_rfl) hS rfl (fun W' f hW hf => by
        skip
        go_simp) (fun hS' => ?_)
      replace hS := hS'; clear hS'
      simp only [List.setIfInBounds_toArray, List.set_cons_zero, List.set_cons_succ] at hS ⊢
      refine wpV_v 3 (.agg #[.int .i64 r.ctx, .int .i64 r.var, .int .i64 r.piece, .int .i64 r.lo, .int .i64 r.hi, .slice R1 np cr1]) rfl rfl (by kernel_rfl) (by kernel_rfl) (by kernel_rfl) (fun _ _ _ _ h => h) (by kernel_rfl) hS rfl (fun W' f hW hf => exec_load19 69 (.tmp 21) rfl _ _ rfl (rng_load (fun i u hu => Ext.cell (show Ext wo W' from hW) (h1 i u hu)))) (fun hS' => ?_)
      replace hS := hS'; clear hS'
      simp only [List.setIfInBounds_toArray, List.set_cons_zero, List.set_cons_succ] at hS ⊢
      refine wpV_v 4 (.slice (some ⟨b2, o2, none⟩) l.length d) rfl rfl (by kernel_rfl) (by kernel_rfl) (by kernel_rfl) (fun _ _ _ _ h => h) (by kernel_rfl) hS rfl (fun W' f hW hf => by
        skip
        go_simp) (fun hS' => ?_)
      replace hS := hS'; clear hS'
      simp only [List.setIfInBounds_toArray, List.set_cons_zero, List.set_cons_succ] at hS ⊢
      refine wpV_v 5 (.int .i64 (j : Int)) rfl rfl (by kernel_rfl) (by kernel_rfl) (by kernel_rfl) (fun _ _ _ _ h => h) (by kernel_rfl) hS rfl (fun W' f hW hf => by
        skip
        go_simp) (fun hS' => ?_)
      replace hS := hS'; clear hS'
      simp only [List.setIfInBounds_toArray, List.set_cons_zero, List.set_cons_succ] at hS ⊢
      refine wpV_v 6 (.pointer (some ⟨b2, o2 + j * 6, none⟩)) rfl rfl (by kernel_rfl) (by kernel_rfl) (by kernel_rfl) (fun _ _ _ _ h => h) (by kernel_rfl) hS rfl (fun W' f hW hf => by
        skip
        go_simp) (fun hS' => ?_)
      replace hS := hS'; clear hS'
      simp only [List.setIfInBounds_toArray, List.set_cons_zero, List.set_cons_succ] at hS ⊢
      refine wpV_v 7 (.agg #[.int .i64 r.ctx, .int .i64 r.var, .int .i64 r.piece, .int .i64 r.lo, .int .i64 r.hi, .slice R2 np cr2]) rfl rfl (by kernel_rfl) (by kernel_rfl) (by kernel_rfl) (fun _ _ _ _ h => h) (by kernel_rfl) hS rfl (fun W' f hW hf => exec_load19 69 (.tmp 25) rfl _ _ rfl (rng_load (fun i u hu => Ext.cell (show Ext wo W' from hW) (h2 i u hu)))) (fun hS' => ?_)
      replace hS := hS'; clear hS'
      simp only [List.setIfInBounds_toArray, List.set_cons_zero, List.set_cons_succ] at hS ⊢
      have hE0 : Ext wo wo.drew := hS
      have hl0 := hE0.size
      clear hS h1 h2
      generalize wo.drew = W0 at *
      refine wpV_2 8 9 (by kernel_rfl) ?_ ?_
      · skip
        refine op_make (v := .pointer (some ⟨W0.heap.size, 0, none⟩)) (W' := W0.alloc (.cells #[.int .i64 0, .int .i64 0, .int .i64 0, .int .i64 0, .int .i64 0, .slice none 0 0] 69)) rfl rfl (by go_simp) ⟨hE0.alloc _, ?_⟩
        simp only [Act.put, List.setIfInBounds_toArray, List.set_cons_zero, List.set_cons_succ]
        have hC1 := heap_alloc_new W0 (.cells #[.int .i64 0, .int .i64 0, .int .i64 0, .int .i64 0, .int .i64 0, .slice none 0 0] 69)
        have hE1 := hE0.alloc (.cells #[.int .i64 0, .int .i64 0, .int .i64 0, .int .i64 0, .int .i64 0, .slice none 0 0] 69)
        have hl1 := hE1.size
        obtain ⟨ga, hga⟩ : ∃ g, g = W0.heap.size := ⟨_, rfl⟩
        rw [← hga] at hC1 hl0 ⊢
        generalize W0.alloc (.cells #[.int .i64 0, .int .i64 0, .int .i64 0, .int .i64 0, .int .i64 0, .slice none 0 0] 69) = W1 at *
        refine wpV_1 9 (by kernel_rfl) (op_make (v := .pointer (some ⟨W1.heap.size, 0, none⟩)) (W' := W1.alloc (.cells #[.int .i64 0, .int .i64 0, .int .i64 0, .int .i64 0, .int .i64 0, .slice none 0 0] 69)) rfl rfl (by go_simp) ⟨hE1.alloc _, ?_⟩)
        simp only [Act.put, List.setIfInBounds_toArray, List.set_cons_zero, List.set_cons_succ]
        have hC2 := heap_alloc_new W1 (.cells #[.int .i64 0, .int .i64 0, .int .i64 0, .int .i64 0, .int .i64 0, .slice none 0 0] 69)
        have hC1' := ((Ext.refl W1).alloc (.cells #[.int .i64 0, .int .i64 0, .int .i64 0, .int .i64 0, .int .i64 0, .slice none 0 0] 69)).heap hC1
        have hE2 := hE1.alloc (.cells #[.int .i64 0, .int .i64 0, .int .i64 0, .int .i64 0, .int .i64 0, .slice none 0 0] 69)
        obtain ⟨gb, hgb⟩ : ∃ g, g = W1.heap.size := ⟨_, rfl⟩
        rw [← hgb] at hC2 hl1 ⊢
        generalize W1.alloc (.cells #[.int .i64 0, .int .i64 0, .int .i64 0, .int .i64 0, .int .i64 0, .slice none 0 0] 69) = W2 at *
        obtain ⟨W6, W7, ca, hst1, hst2, hB6, hB7, hca, hext⟩ := two_box (P := Try.prog) (z := #[.int .i64 0, .int .i64 0, .int .i64 0, .int .i64 0, .int .i64 0, .slice none 0 0]) (g6 := ga) (g7 := gb) (c1 := #[.int .i64 r.ctx, .int .i64 r.var, .int .i64 r.piece, .int .i64 r.lo, .int .i64 r.hi, .slice R1 np cr1]) (c2 := #[.int .i64 r.ctx, .int .i64 r.var, .int .i64 r.piece, .int .i64 r.lo, .int .i64 r.hi, .slice R2 np cr2]) (by assumption) (by assumption) rg_size rfl rfl (by simp [Value.oneCell']) (by simp [Value.oneCell'])
        obtain ⟨hX6, hX7⟩ := hext wo hE2 (by assumption) (by assumption)
        refine wpV_1 10 (by kernel_rfl) (op_skip rfl rfl rfl (exec_store19 69 (.tmp 6) (.tmp 22) rfl _ _ rfl rfl hst1) ⟨hX6, ?_⟩)
        simp only [List.setIfInBounds_toArray, List.set_cons_zero, List.set_cons_succ]
        refine wpV_1 11 (by kernel_rfl) (op_skip rfl rfl rfl (exec_store19 69 (.tmp 7) (.tmp 26) rfl _ _ rfl rfl hst2) ⟨hX7, ?_⟩)
        simp only [List.setIfInBounds_toArray, List.set_cons_zero, List.set_cons_succ]
        refine wpV_end (by kernel_rfl) (NoPanic.normal ?_)
        have HXX := Lib.hid (hX.trans hX7)
        obtain ⟨R3, cr3, hca3, K3⟩ : ∃ R3 cr3, ca = #[.int .i64 r.ctx, .int .i64 r.var, .int .i64 r.piece, .int .i64 r.lo, .int .i64 r.hi, .slice R3 np cr3] ∧ Hid (InR plcCells wo (.slice R3 np cr3) r.places) := by
          rcases hca with rfl | rfl
          · exact ⟨R1, cr1, rfl, K1⟩
          · exact ⟨R2, cr2, rfl, K2⟩
        subst hca3
        clear hca hext hX hX6 hE0 hE1 hE2 hl0 hl1 hC1 hC1' hC2 hga hgb K1 hst1 hst2
        obtain ⟨p0, p1, p2, p3, p4, p5⟩ := blk6 hB6
        obtain ⟨s0, s1, s2, s3, s4, s5⟩ := blk6 hB7
        clear hB6 hB7
        go_wp2_with fail
        refine (placesSelf_any _ _ r.places W7 (K3.out.ext hX7) (K2.out.ext hX7) hrK).mono ?_
        rintro en w8 ⟨rfl, hx8⟩
        have hX8 := HXX.out.trans hx8
        clear hX7 hx8 p0 p1 p2 p3 p4 p5 s0 s1 s2 s3 s4 s5
        go_wp2_with fail
        go_roundw
        case rel => exact ⟨j + 1, by omega, by go_num, hX8⟩
        case measure => simp [intOf]; omega
      · skip
        refine op_make (v := .pointer (some ⟨W0.heap.size, 0, none⟩)) (W' := W0.alloc (.cells #[.int .i64 0, .int .i64 0, .int .i64 0, .int .i64 0, .int .i64 0, .slice none 0 0] 69)) rfl rfl (by go_simp) ⟨hE0.alloc _, ?_⟩
        simp only [Act.put, List.setIfInBounds_toArray, List.set_cons_zero, List.set_cons_succ]
        have hC1 := heap_alloc_new W0 (.cells #[.int .i64 0, .int .i64 0, .int .i64 0, .int .i64 0, .int .i64 0, .slice none 0 0] 69)
        have hE1 := hE0.alloc (.cells #[.int .i64 0, .int .i64 0, .int .i64 0, .int .i64 0, .int .i64 0, .slice none 0 0] 69)
        have hl1 := hE1.size
        obtain ⟨ga, hga⟩ : ∃ g, g = W0.heap.size := ⟨_, rfl⟩
        rw [← hga] at hC1 hl0 ⊢
        generalize W0.alloc (.cells #[.int .i64 0, .int .i64 0, .int .i64 0, .int .i64 0, .int .i64 0, .slice none 0 0] 69) = W1 at *
        refine wpV_1 8 (by kernel_rfl) (op_make (v := .pointer (some ⟨W1.heap.size, 0, none⟩)) (W' := W1.alloc (.cells #[.int .i64 0, .int .i64 0, .int .i64 0, .int .i64 0, .int .i64 0, .slice none 0 0] 69)) rfl rfl (by go_simp) ⟨hE1.alloc _, ?_⟩)
        simp only [Act.put, List.setIfInBounds_toArray, List.set_cons_zero, List.set_cons_succ]
        have hC2 := heap_alloc_new W1 (.cells #[.int .i64 0, .int .i64 0, .int .i64 0, .int .i64 0, .int .i64 0, .slice none 0 0] 69)
        have hC1' := ((Ext.refl W1).alloc (.cells #[.int .i64 0, .int .i64 0, .int .i64 0, .int .i64 0, .int .i64 0, .slice none 0 0] 69)).heap hC1
        have hE2 := hE1.alloc (.cells #[.int .i64 0, .int .i64 0, .int .i64 0, .int .i64 0, .int .i64 0, .slice none 0 0] 69)
        obtain ⟨gb, hgb⟩ : ∃ g, g = W1.heap.size := ⟨_, rfl⟩
        rw [← hgb] at hC2 hl1 ⊢
        generalize W1.alloc (.cells #[.int .i64 0, .int .i64 0, .int .i64 0, .int .i64 0, .int .i64 0, .slice none 0 0] 69) = W2 at *
        obtain ⟨W6, W7, ca, hst1, hst2, hB6, hB7, hca, hext⟩ := two_box (P := Try.prog) (z := #[.int .i64 0, .int .i64 0, .int .i64 0, .int .i64 0, .int .i64 0, .slice none 0 0]) (g6 := gb) (g7 := ga) (c1 := #[.int .i64 r.ctx, .int .i64 r.var, .int .i64 r.piece, .int .i64 r.lo, .int .i64 r.hi, .slice R1 np cr1]) (c2 := #[.int .i64 r.ctx, .int .i64 r.var, .int .i64 r.piece, .int .i64 r.lo, .int .i64 r.hi, .slice R2 np cr2]) (by assumption) (by assumption) rg_size rfl rfl (by simp [Value.oneCell']) (by simp [Value.oneCell'])
        obtain ⟨hX6, hX7⟩ := hext wo hE2 (by assumption) (by assumption)
        refine wpV_1 10 (by kernel_rfl) (op_skip rfl rfl rfl (exec_store19 69 (.tmp 6) (.tmp 22) rfl _ _ rfl rfl hst1) ⟨hX6, ?_⟩)
        simp only [List.setIfInBounds_toArray, List.set_cons_zero, List.set_cons_succ]
        refine wpV_1 11 (by kernel_rfl) (op_skip rfl rfl rfl (exec_store19 69 (.tmp 7) (.tmp 26) rfl _ _ rfl rfl hst2) ⟨hX7, ?_⟩)
        simp only [List.setIfInBounds_toArray, List.set_cons_zero, List.set_cons_succ]
        refine wpV_end (by kernel_rfl) (NoPanic.normal ?_)
        have HXX := Lib.hid (hX.trans hX7)
        obtain ⟨R3, cr3, hca3, K3⟩ : ∃ R3 cr3, ca = #[.int .i64 r.ctx, .int .i64 r.var, .int .i64 r.piece, .int .i64 r.lo, .int .i64 r.hi, .slice R3 np cr3] ∧ Hid (InR plcCells wo (.slice R3 np cr3) r.places) := by
          rcases hca with rfl | rfl
          · exact ⟨R1, cr1, rfl, K1⟩
          · exact ⟨R2, cr2, rfl, K2⟩
        subst hca3
        clear hca hext hX hX6 hE0 hE1 hE2 hl0 hl1 hC1 hC1' hC2 hga hgb K1 hst1 hst2
        obtain ⟨p0, p1, p2, p3, p4, p5⟩ := blk6 hB6
        obtain ⟨s0, s1, s2, s3, s4, s5⟩ := blk6 hB7
        clear hB6 hB7
        go_wp2_with fail
        refine (placesSelf_any _ _ r.places W7 (K3.out.ext hX7) (K2.out.ext hX7) hrK).mono ?_
        rintro en w8 ⟨rfl, hx8⟩
        have hX8 := HXX.out.trans hx8
        clear hX7 hx8 p0 p1 p2 p3 p4 p5 s0 s1 s2 s3 s4 s5
        go_wp2_with fail
        go_roundw
        case rel => exact ⟨j + 1, by omega, by go_num, hX8⟩
        case measure => simp [intOf]; omega
    · have hij : ¬ (j : Int) < (l.length : Int) := by omega
      go_wp2_with fail
      go_ret
      exact ⟨rfl, hX⟩
set_option maxHeartbeats 40000000 in
set_option maxRecDepth 100000 in
theorem listsSelf_any (u v : Value) (l : List PTab) (w : World) (hu : PTabs w u l) (hv : PTabs w v l) (hl : l.length ≤ 1000000000) (hr : ∀ t ∈ l, t.ranges.length ≤ 1000000000 ∧ ∀ r ∈ t.ranges, r.places.length ≤ 1000000000) :
    Calls Try.prog 67 #[u, v] w fun en w' => en = .returned (.bool true) ∧ Ext w w' := by
  obtain ⟨A, c, rfl⟩ := hu.form
  obtain ⟨B, d, rfl⟩ := hv.form
  have HU := Lib.hid hu
  have HV := Lib.hid hv
  clear hu hv
  go_enter Try.func67, Try.ntmps67
  go_wp2_with fail
  go_loopw [5] (fun i wr => ∃ j : Nat, j ≤ l.length ∧ i = .int .i64 (j : Int) ∧ Ext w wr) (fun i _ => l.length - (intOf i).toNat)
  case atStart => exact ⟨0, by omega, rfl, Ext.refl _⟩
  case round =>
    obtain ⟨j, hj, rfl, hX⟩ := hrel
    obtain ⟨wo, rfl⟩ : ∃ wo : World, wo = wr := ⟨_, rfl⟩
    by_cases hlt : j < l.length
    · have hij : (j : Int) < (l.length : Int) := by omega
      obtain ⟨b1, o1, y1, rfl, h1, k1⟩ := (HU.out.ext hX).at_ hlt
      obtain ⟨b2, o2, y2, rfl, h2, k2⟩ := (HV.out.ext hX).at_ hlt
      have hrK := hr _ (List.getElem_mem hlt)
      generalize l[j] = t at *
      obtain ⟨R1, cr1, rfl⟩ := k1.form
      obtain ⟨R2, cr2, rfl⟩ := k2.form
      have K1 := Lib.hid k1
      have K2 := Lib.hid k2
      obtain ⟨nr, hnr⟩ : ∃ n, n = t.ranges.length := ⟨_, rfl⟩
      have a0 : wo.cell? ⟨b1, o1 + j * 3, none⟩ = some (.int .i64 t.lo) := by have := h1 0 _ rfl; simpa using this
      have a1 : wo.cell? ⟨b1, o1 + j * 3 + 1, none⟩ = some (.int .i64 t.hi) := h1 1 _ rfl
      have a2 : wo.cell? ⟨b1, o1 + j * 3 + 2, none⟩ = some (.slice R1 nr cr1) := by rw [hnr]; exact h1 2 _ rfl
      have e0 : wo.cell? ⟨b2, o2 + j * 3, none⟩ = some (.int .i64 t.lo) := by have := h2 0 _ rfl; simpa using this
      have e1 : wo.cell? ⟨b2, o2 + j * 3 + 1, none⟩ = some (.int .i64 t.hi) := h2 1 _ rfl
      have e2 : wo.cell? ⟨b2, o2 + j * 3 + 2, none⟩ = some (.slice R2 nr cr2) := by rw [hnr]; exact h2 2 _ rfl
      have HNK := Lib.hid hnr
      clear h1 h2 k1 k2 hnr
      go_upto_region 6 with fail
      refine wp_region_X #[true, true, true, true, true, true, true, true, true, true, true, true, true, true, true, true, true, true, true, true, true, true, true, true, true, true, true, true, true, true, true, true, true, true, true, true, true, true] 38 0 (by kernel_rfl) rfl ?_
      refine wpX_v 0 (.slice (some ⟨b1, o1, none⟩) l.length c) rfl rfl (by kernel_rfl) (by kernel_rfl) (by kernel_rfl) (fun _ _ _ _ h => h) (by kernel_rfl) rfl (by rfl) (fun W' hW => by
        skip
        go_simp) ?_
      simp only [List.setIfInBounds_toArray, List.set_cons_zero, List.set_cons_succ]
      refine wpX_v 1 (.int .i64 (j : Int)) rfl rfl (by kernel_rfl) (by kernel_rfl) (by kernel_rfl) (fun _ _ _ _ h => h) (by kernel_rfl) rfl (by rfl) (fun W' hW => by
        skip
        go_simp) ?_
      simp only [List.setIfInBounds_toArray, List.set_cons_zero, List.set_cons_succ]
      refine wpX_v 2 (.pointer (some ⟨b1, o1 + j * 3, none⟩)) rfl rfl (by kernel_rfl) (by kernel_rfl) (by kernel_rfl) (fun _ _ _ _ h => h) (by kernel_rfl) rfl (by rfl) (fun W' hW => by
        skip
        go_simp) ?_
      simp only [List.setIfInBounds_toArray, List.set_cons_zero, List.set_cons_succ]
      refine wpX_v 3 (.pointer (some ⟨b1, o1 + j * 3, none⟩)) rfl rfl (by kernel_rfl) (by kernel_rfl) (by kernel_rfl) (fun _ _ _ _ h => h) (by kernel_rfl) rfl (by rfl) (fun W' hW => by
        skip
        go_simp) ?_
      simp only [List.setIfInBounds_toArray, List.set_cons_zero, List.set_cons_succ]
      refine wpX_v 4 (.int .i64 t.lo) rfl rfl (by kernel_rfl) (by kernel_rfl) (by kernel_rfl) (fun _ _ _ _ h => h) (by kernel_rfl) rfl (by rfl) (fun W' hW => by
        have z := (((Ext.refl wo).drew).trans hW).cell a0
        go_simp) ?_
      simp only [List.setIfInBounds_toArray, List.set_cons_zero, List.set_cons_succ]
      refine wpX_v 5 (.slice (some ⟨b2, o2, none⟩) l.length d) rfl rfl (by kernel_rfl) (by kernel_rfl) (by kernel_rfl) (fun _ _ _ _ h => h) (by kernel_rfl) rfl (by rfl) (fun W' hW => by
        skip
        go_simp) ?_
      simp only [List.setIfInBounds_toArray, List.set_cons_zero, List.set_cons_succ]
      refine wpX_v 6 (.int .i64 (j : Int)) rfl rfl (by kernel_rfl) (by kernel_rfl) (by kernel_rfl) (fun _ _ _ _ h => h) (by kernel_rfl) rfl (by rfl) (fun W' hW => by
        skip
        go_simp) ?_
      simp only [List.setIfInBounds_toArray, List.set_cons_zero, List.set_cons_succ]
      refine wpX_v 7 (.pointer (some ⟨b2, o2 + j * 3, none⟩)) rfl rfl (by kernel_rfl) (by kernel_rfl) (by kernel_rfl) (fun _ _ _ _ h => h) (by kernel_rfl) rfl (by rfl) (fun W' hW => by
        skip
        go_simp) ?_
      simp only [List.setIfInBounds_toArray, List.set_cons_zero, List.set_cons_succ]
      refine wpX_v 8 (.pointer (some ⟨b2, o2 + j * 3, none⟩)) rfl rfl (by kernel_rfl) (by kernel_rfl) (by kernel_rfl) (fun _ _ _ _ h => h) (by kernel_rfl) rfl (by rfl) (fun W' hW => by
        skip
        go_simp) ?_
      simp only [List.setIfInBounds_toArray, List.set_cons_zero, List.set_cons_succ]
      refine wpX_v 9 (.int .i64 t.lo) rfl rfl (by kernel_rfl) (by kernel_rfl) (by kernel_rfl) (fun _ _ _ _ h => h) (by kernel_rfl) rfl (by rfl) (fun W' hW => by
        have z := (((Ext.refl wo).drew).trans hW).cell e0
        go_simp) ?_
      simp only [List.setIfInBounds_toArray, List.set_cons_zero, List.set_cons_succ]
      refine wpX_v 10 (.bool false) rfl rfl (by kernel_rfl) (by kernel_rfl) (by kernel_rfl) (fun _ _ _ _ h => h) (by kernel_rfl) rfl (by rfl) (fun W' hW => by
        skip
        go_simp) ?_
      simp only [List.setIfInBounds_toArray, List.set_cons_zero, List.set_cons_succ]
      refine wpX_v 11 (.bool false) rfl rfl (by kernel_rfl) (by kernel_rfl) (by kernel_rfl) (fun _ _ _ _ h => h) (by kernel_rfl) rfl (by rfl) (fun W' hW => by
        skip
        go_simp) ?_
      simp only [List.setIfInBounds_toArray, List.set_cons_zero, List.set_cons_succ]
      refine wpX_v 12 (.slice (some ⟨b1, o1, none⟩) l.length c) rfl rfl (by kernel_rfl) (by kernel_rfl) (by kernel_rfl) (fun _ _ _ _ h => h) (by kernel_rfl) rfl (by rfl) (fun W' hW => by
        skip
        go_simp) ?_
      simp only [List.setIfInBounds_toArray, List.set_cons_zero, List.set_cons_succ]
      refine wpX_v 13 (.int .i64 (j : Int)) rfl rfl (by kernel_rfl) (by kernel_rfl) (by kernel_rfl) (fun _ _ _ _ h => h) (by kernel_rfl) rfl (by rfl) (fun W' hW => by
        skip
        go_simp) ?_
      simp only [List.setIfInBounds_toArray, List.set_cons_zero, List.set_cons_succ]
      refine wpX_v 14 (.pointer (some ⟨b1, o1 + j * 3, none⟩)) rfl rfl (by kernel_rfl) (by kernel_rfl) (by kernel_rfl) (fun _ _ _ _ h => h) (by kernel_rfl) rfl (by rfl) (fun W' hW => by
        skip
        go_simp) ?_
      simp only [List.setIfInBounds_toArray, List.set_cons_zero, List.set_cons_succ]
      refine wpX_v 15 (.pointer (some ⟨b1, o1 + j * 3 + 1, none⟩)) rfl rfl (by kernel_rfl) (by kernel_rfl) (by kernel_rfl) (fun _ _ _ _ h => h) (by kernel_rfl) rfl (by rfl) (fun W' hW => by
        skip
        go_simp) ?_
      simp only [List.setIfInBounds_toArray, List.set_cons_zero, List.set_cons_succ]
      refine wpX_v 16 (.int .i64 t.hi) rfl rfl (by kernel_rfl) (by kernel_rfl) (by kernel_rfl) (fun _ _ _ _ h => h) (by kernel_rfl) rfl (by rfl) (fun W' hW => by
        have z := (((Ext.refl wo).drew).trans hW).cell a1
        go_simp) ?_
      simp only [List.setIfInBounds_toArray, List.set_cons_zero, List.set_cons_succ]
      refine wpX_v 17 (.slice (some ⟨b2, o2, none⟩) l.length d) rfl rfl (by kernel_rfl) (by kernel_rfl) (by kernel_rfl) (fun _ _ _ _ h => h) (by kernel_rfl) rfl (by rfl) (fun W' hW => by
        skip
        go_simp) ?_
      simp only [List.setIfInBounds_toArray, List.set_cons_zero, List.set_cons_succ]
      refine wpX_v 18 (.int .i64 (j : Int)) rfl rfl (by kernel_rfl) (by kernel_rfl) (by kernel_rfl) (fun _ _ _ _ h => h) (by kernel_rfl) rfl (by rfl) (fun W' hW => by
        skip
        go_simp) ?_
      simp only [List.setIfInBounds_toArray, List.set_cons_zero, List.set_cons_succ]
      refine wpX_v 19 (.pointer (some ⟨b2, o2 + j * 3, none⟩)) rfl rfl (by kernel_rfl) (by kernel_rfl) (by kernel_rfl) (fun _ _ _ _ h => h) (by kernel_rfl) rfl (by rfl) (fun W' hW => by
        skip
        go_simp) ?_
      simp only [List.setIfInBounds_toArray, List.set_cons_zero, List.set_cons_succ]
      refine wpX_v 20 (.pointer (some ⟨b2, o2 + j * 3 + 1, none⟩)) rfl rfl (by kernel_rfl) (by kernel_rfl) (by kernel_rfl) (fun _ _ _ _ h => h) (by kernel_rfl) rfl (by rfl) (fun W' hW => by
        skip
        go_simp) ?_
      simp only [List.setIfInBounds_toArray, List.set_cons_zero, List.set_cons_succ]
      refine wpX_v 21 (.int .i64 t.hi) rfl rfl (by kernel_rfl) (by kernel_rfl) (by kernel_rfl) (fun _ _ _ _ h => h) (by kernel_rfl) rfl (by rfl) (fun W' hW => by
        have z := (((Ext.refl wo).drew).trans hW).cell e1
        go_simp) ?_
      simp only [List.setIfInBounds_toArray, List.set_cons_zero, List.set_cons_succ]
      refine wpX_v 22 (.bool false) rfl rfl (by kernel_rfl) (by kernel_rfl) (by kernel_rfl) (fun _ _ _ _ h => h) (by kernel_rfl) rfl (by rfl) (fun W' hW => by
        skip
        go_simp) ?_
      simp only [List.setIfInBounds_toArray, List.set_cons_zero, List.set_cons_succ]
      refine wpX_v 23 (.bool false) rfl rfl (by kernel_rfl) (by kernel_rfl) (by kernel_rfl) (fun _ _ _ _ h => h) (by kernel_rfl) rfl (by rfl) (fun W' hW => by
        skip
        go_simp) ?_
      simp only [List.setIfInBounds_toArray, List.set_cons_zero, List.set_cons_succ]
      refine wpX_v 24 (.bool false) rfl rfl (by kernel_rfl) (by kernel_rfl) (by kernel_rfl) (fun _ _ _ _ h => h) (by kernel_rfl) rfl (by rfl) (fun W' hW => by
        skip
        go_simp) ?_
      simp only [List.setIfInBounds_toArray, List.set_cons_zero, List.set_cons_succ]
      refine wpX_v 25 (.slice (some ⟨b1, o1, none⟩) l.length c) rfl rfl (by kernel_rfl) (by kernel_rfl) (by kernel_rfl) (fun _ _ _ _ h => h) (by kernel_rfl) rfl (by rfl) (fun W' hW => by
        skip
        go_simp) ?_
      simp only [List.setIfInBounds_toArray, List.set_cons_zero, List.set_cons_succ]
      refine wpX_v 26 (.int .i64 (j : Int)) rfl rfl (by kernel_rfl) (by kernel_rfl) (by kernel_rfl) (fun _ _ _ _ h => h) (by kernel_rfl) rfl (by rfl) (fun W' hW => by
        skip
        go_simp) ?_
      simp only [List.setIfInBounds_toArray, List.set_cons_zero, List.set_cons_succ]
      refine wpX_v 27 (.pointer (some ⟨b1, o1 + j * 3, none⟩)) rfl rfl (by kernel_rfl) (by kernel_rfl) (by kernel_rfl) (fun _ _ _ _ h => h) (by kernel_rfl) rfl (by rfl) (fun W' hW => by
        skip
        go_simp) ?_
      simp only [List.setIfInBounds_toArray, List.set_cons_zero, List.set_cons_succ]
      refine wpX_v 28 (.pointer (some ⟨b1, o1 + j * 3 + 2, none⟩)) rfl rfl (by kernel_rfl) (by kernel_rfl) (by kernel_rfl) (fun _ _ _ _ h => h) (by kernel_rfl) rfl (by rfl) (fun W' hW => by
        skip
        go_simp) ?_
      simp only [List.setIfInBounds_toArray, List.set_cons_zero, List.set_cons_succ]
      refine wpX_v 29 (.slice R1 nr cr1) rfl rfl (by kernel_rfl) (by kernel_rfl) (by kernel_rfl) (fun _ _ _ _ h => h) (by kernel_rfl) rfl (by rfl) (fun W' hW => by
        have z := (((Ext.refl wo).drew).trans hW).cell a2
        go_simp) ?_
      simp only [List.setIfInBounds_toArray, List.set_cons_zero, List.set_cons_succ]
      refine wpX_v 30 (.slice (some ⟨b2, o2, none⟩) l.length d) rfl rfl (by kernel_rfl) (by kernel_rfl) (by kernel_rfl) (fun _ _ _ _ h => h) (by kernel_rfl) rfl (by rfl) (fun W' hW => by
        skip
        go_simp) ?_
      simp only [List.setIfInBounds_toArray, List.set_cons_zero, List.set_cons_succ]
      refine wpX_v 31 (.int .i64 (j : Int)) rfl rfl (by kernel_rfl) (by kernel_rfl) (by kernel_rfl) (fun _ _ _ _ h => h) (by kernel_rfl) rfl (by rfl) (fun W' hW => by
        skip
        go_simp) ?_
      simp only [List.setIfInBounds_toArray, List.set_cons_zero, List.set_cons_succ]
      refine wpX_v 32 (.pointer (some ⟨b2, o2 + j * 3, none⟩)) rfl rfl (by kernel_rfl) (by kernel_rfl) (by kernel_rfl) (fun _ _ _ _ h => h) (by kernel_rfl) rfl (by rfl) (fun W' hW => by
        skip
        go_simp) ?_
      simp only [List.setIfInBounds_toArray, List.set_cons_zero, List.set_cons_succ]
      refine wpX_v 33 (.pointer (some ⟨b2, o2 + j * 3 + 2, none⟩)) rfl rfl (by kernel_rfl) (by kernel_rfl) (by kernel_rfl) (fun _ _ _ _ h => h) (by kernel_rfl) rfl (by rfl) (fun W' hW => by
        skip
        go_simp) ?_
      simp only [List.setIfInBounds_toArray, List.set_cons_zero, List.set_cons_succ]
      refine wpX_v 34 (.slice R2 nr cr2) rfl rfl (by kernel_rfl) (by kernel_rfl) (by kernel_rfl) (fun _ _ _ _ h => h) (by kernel_rfl) rfl (by rfl) (fun W' hW => by
        have z := (((Ext.refl wo).drew).trans hW).cell e2
        go_simp) ?_
      simp only [List.setIfInBounds_toArray, List.set_cons_zero, List.set_cons_succ]
      refine wpX_cg 35 91 #[.slice R1 nr cr1, .slice R2 nr cr2] rfl rfl (by kernel_rfl) rfl (by rfl) (fun W => by go_simp) ?_
      intro W2 hW2
      have hX2 := ((Ext.refl wo).drew).trans hW2
      refine (rangesSelf_any _ _ t.ranges W2 (by rw [HNK.out]; exact K1.out.ext hX2) (by rw [HNK.out]; exact K2.out.ext hX2) hrK.1 hrK.2).mono ?_
      rintro en w2 ⟨rfl, he2⟩
      have hY2 := hX2.trans he2
      refine ⟨_, rfl, he2, ?_⟩
      simp only [List.setIfInBounds_toArray, List.set_cons_zero, List.set_cons_succ]
      refine wpX_v 36 (.bool false) rfl rfl (by kernel_rfl) (by kernel_rfl) (by kernel_rfl) (fun _ _ _ _ h => h) (by kernel_rfl) rfl (by rfl) (fun W' hW => by
        skip
        go_simp) ?_
      simp only [List.setIfInBounds_toArray, List.set_cons_zero, List.set_cons_succ]
      refine wpX_v 37 (.bool false) rfl rfl (by kernel_rfl) (by kernel_rfl) (by kernel_rfl) (fun _ _ _ _ h => h) (by kernel_rfl) rfl (by rfl) (fun W' hW => by
        skip
        go_simp) ?_
      simp only [List.setIfInBounds_toArray, List.set_cons_zero, List.set_cons_succ]
      refine wpX_end rfl fun W5 hW5 => tail_none (by kernel_rfl) ?_
      refine NoPanic.normal ?_
      have hX5 := hX.trans (hY2.trans hW5)
      clear hX2 he2 hY2 hW5 hW2 a0 a1 a2 e0 e1 e2
      go_wp2_with fail
      go_roundw
      case rel => exact ⟨j + 1, by omega, by go_num, hX5⟩
      case measure => simp [intOf]; omega
    · have hij : ¬ (j : Int) < (l.length : Int) := by omega
      go_wp2_with fail
      go_ret
      exact ⟨rfl, hX⟩
end Go.Proofs.Ytokmbdeafjmcjaa
