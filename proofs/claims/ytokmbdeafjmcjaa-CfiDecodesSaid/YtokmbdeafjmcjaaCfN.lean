/- What may be encoded, as the specification says it: the walks of ref.one and ref.Right. -/
import Derived.Test.YtokmbdeafjmcjaaCfE
import Derived.Test.YtokmbdeafjmcjaaLinW
namespace Go.Proofs.Ytokmbdeafjmcjaa
open Go.RowKit
set_option linter.unusedVariables false
set_option linter.unusedSimpArgs false

theorem at_zero : (Try.prog.info? 132).map (fun i => (i.zero, i.size)) = some (some (.agg (Array.replicate 6144 (.bool false))), 6144) := by kernel_rfl
theorem run_alloc_at (w : World) : (Instr.alloc 132 true (.tuple #[])).run Try.prog w = .ok (.pointer (some ⟨w.heap.size, 0, none⟩)) (w.alloc (.cells (Array.replicate 6144 (.bool false)) 132)) := by
  rcases hi : Try.prog.info? 132 with _ | i
  · have := at_zero; rw [hi] at this; cases this
  · have h := at_zero
    rw [hi] at h
    simp only [Option.map_some, Option.some.injEq, Prod.mk.injEq] at h
    obtain ⟨h1, h2⟩ := h
    generalize Array.replicate 6144 (Value.bool false) = C at *
    unfold Instr.alloc zeroValue newVar
    simp [typeInfo, hi, h1, newRow]
    rfl
/-- the names that have been seen -/
def Seen (C : Array Value) (l : List Obj) : Prop := C.size = 6144 ∧ ∀ c v : Nat, c ≤ 255 → v < 24 → C[c * 24 + v]? = some (.bool (decide (((c : Int), (v : Int)) ∈ l.map objName)))
theorem Seen.start : Seen (Array.replicate 6144 (.bool false)) [] := ⟨by simp, fun c v hc hv => by
  rw [Array.getElem?_replicate, if_pos (by omega)]
  simp⟩
theorem Seen.push {C : Array Value} {l : List Obj} {o : Obj} {c v : Nat} (h : Seen C l) (hc : c ≤ 255) (hv : v < 24) (ec : o.ctx = (c : Int)) (ev : o.var = (v : Int)) : Seen (C.setIfInBounds (c * 24 + v) (.bool true)) (l ++ [o]) := by
  refine ⟨by rw [Array.size_setIfInBounds]; exact h.1, fun c2 v2 h1 h2 => ?_⟩
  rw [Array.getElem?_setIfInBounds]
  have hs := h.1
  by_cases e : c * 24 + v = c2 * 24 + v2
  · rw [if_pos e, if_pos (by omega)]
    obtain ⟨rfl, rfl⟩ : c2 = c ∧ v2 = v := by omega
    simp [objName, ec, ev]
  · rw [if_neg e, h.2 c2 v2 h1 h2]
    have : ¬ (((c2 : Int), (v2 : Int)) = objName o) := fun e2 => by
      unfold objName at e2
      injection e2 with e3 e4
      omega
    simp [this]
set_option maxHeartbeats 40000000 in
set_option maxRecDepth 100000 in
theorem refOne_any (t : FTab) (y z : Value) (w : World) (hy : InR stpCells w y t.steps) (hz : InR objCells w z t.objs) (hI : t.I) (hlo : -1 ≤ t.lo ∧ t.lo ≤ 1048576) (hhi : t.hi ≤ 1048576) :
    Calls Try.prog 50 #[.agg #[.int .i64 t.lo, .int .i64 t.hi, y, z]] w (Tells (okStps t.lo t.hi t.steps ∧ okObjs t.objs) w) := by
  obtain ⟨A2, c2, rfl, _, _⟩ := id hy
  obtain ⟨A3, c3, rfl, _, _⟩ := id hz
  obtain ⟨n2, hn2⟩ : ∃ n, n = t.steps.length := ⟨_, rfl⟩
  obtain ⟨n3, hn3⟩ : ∃ n, n = t.objs.length := ⟨_, rfl⟩
  have hlen2 : n2 ≤ 9223372036854775807 := by rw [hn2]; exact hI.steps
  have hlen3 : n3 ≤ 9223372036854775807 := by rw [hn3]; exact hI.objs
  have HY := Lib.hid hy
  have HZ := Lib.hid hz
  rw [← hn2] at HY ⊢
  rw [← hn3] at HZ ⊢
  have HN2 := Lib.hid hn2
  have HN3 := Lib.hid hn3
  clear hy hz hn2 hn3
  go_enter Try.func50, Try.ntmps50
  go_upto_region 1 with fail
  obtain ⟨W, hW, hE, hB⟩ : ∃ W, W = w.alloc (.cells #[.int .i64 t.lo, .int .i64 t.hi, .slice A2 n2 c2, .slice A3 n3 c3] 27) ∧ Ext w W ∧ W.heap[w.heap.size]? = some (.cells #[.int .i64 t.lo, .int .i64 t.hi, .slice A2 n2 c2, .slice A3 n3 c3] 27 (0, 0)) := ⟨_, rfl, (Ext.refl w).alloc _, heap_alloc_new w _⟩
  rw [← hW]
  obtain ⟨g1, hg1⟩ : ∃ g, g = w.heap.size := ⟨_, rfl⟩
  rw [← hg1] at hB ⊢
  clear hW hg1
  obtain ⟨q0, q1, q2, q3⟩ := blkR hB
  go_wp2_with fail
  clear q0 q1 q2 q3
  go_loopw [11] (fun i wr => ∃ (k : Nat) (nx : Int), k ≤ n2 ∧ i = .int .i64 (k : Int) ∧ (t.lo ≤ nx ∧ nx ≤ 1048577) ∧ Hid (okStps t.lo t.hi t.steps ↔ okStps nx t.hi (t.steps.drop k)) ∧ Hid (∀ p, 0 < k → t.steps[k - 1]? = some p → nx = p.addr + 1) ∧ Hid (k = 0 → nx = t.lo) ∧ Ext W wr) (fun i _ => n2 - (intOf i).toNat)
  case atStart => exact ⟨0, t.lo, by omega, rfl, by omega, Lib.hid (by rw [List.drop_zero]), Lib.hid (fun p h => absurd h (by omega)), Lib.hid (fun _ => rfl), Ext.refl _⟩
  case round =>
    obtain ⟨k, nx, hk, rfl, hnx, HRR, HPV, HP0, hXk⟩ := hrel
    obtain ⟨wz, rfl⟩ : ∃ W : World, W = wr := ⟨_, rfl⟩
    by_cases hlk : k < n2
    · have hki : (k : Int) < (n2 : Int) := by omega
      have hlk' : k < t.steps.length := by rw [← HN2.out]; exact hlk
      have hat := fun (j : Nat) (hj : j < t.steps.length) => (HY.out.ext (hE.trans hXk)).at_ (k := 2) (fun _ _ => rfl) (by omega) hj
      obtain ⟨b2, o2, hAe, hra⟩ := hat k hlk'
      subst hAe
      have HDR := Lib.hid (List.drop_eq_getElem_cons hlk')
      have HGK := Lib.hid (List.getElem?_eq_getElem hlk')
      have HPC : Hid (0 < k → ∃ p, t.steps[k - 1]? = some p ∧ wz.cell? ⟨b2, o2 + (k - 1) * 2, none⟩ = some (.int .i64 p.addr)) := Lib.hid (fun h0 => by
        obtain ⟨b3, o3, he, hr3⟩ := hat (k - 1) (by omega)
        injection he with he
        injection he with e1 e2 _
        subst e1 e2
        exact ⟨_, List.getElem?_eq_getElem (by omega), hr3 0 _ rfl⟩)
      clear hat
      generalize t.steps[k] = r at *
      have hld := stp_load hra
      obtain ⟨hst, hG, hXG⟩ := box_new (P := Try.prog) wz 78 #[.int .i64 0, .int .i64 0] #[.int .i64 r.addr, .int .i64 r.off] sp_size rfl (by simp [Value.oneCell'])
      go_upto_region 4 with first | refine wpList_load_run rfl 78 (.tmp 14) rfl _ _ rfl hld ?_ | refine wpList_store_run rfl 78 (.tmp 4) (.tmp 15) rfl _ _ _ rfl rfl hst ?_
      obtain ⟨g8, hg8⟩ : ∃ g, g = wz.heap.size := ⟨_, rfl⟩
      rw [← hg8] at hG hXG ⊢
      generalize (wz.alloc (.cells #[.int .i64 0, .int .i64 0] 78)).setRow g8 #[.int .i64 r.addr, .int .i64 r.off] = wg at *
      dsimp only [Act.put]
      have hXg := hXk.trans hXG
      obtain ⟨s0, s1⟩ := blk2 hG
      obtain ⟨p0, p1, p2, p3⟩ := blkR (hXg.heap hB)
      have HPG : Hid (0 < k → ∃ p, t.steps[k - 1]? = some p ∧ wg.cell? ⟨b2, o2 + (k - 1) * 2, none⟩ = some (.int .i64 p.addr)) := Lib.hid (fun h0 => by
        obtain ⟨p, h1, h2⟩ := HPC.out h0
        exact ⟨p, h1, hXG.cell h2⟩)
      clear hst hld hra hG hXG hXk hg8 HPC
      go_cut [53] (fun s wx => ∃ d : Bool, s = .bool d ∧ (d = false ↔ (nx ≤ r.addr ∧ r.addr < t.hi ∧ 0 ≤ r.off ∧ r.off ≤ 4096)) ∧ Ext wg wx)
      case first =>
        by_cases e1 : r.addr < t.lo
        case pos =>
          have t1 : decide (r.addr < t.lo) = true := by first | (simpa using e1) | (simp; omega)
          go_quiet (fail)
          go_wp2_with fail
          go_meet
          exact ⟨true, rfl, ⟨fun h => (by cases h), fun h => (by have := h.1; omega)⟩, (Ext.refl _).drewN _⟩
        have t1 : decide (r.addr < t.lo) = false := by first | (simpa using e1) | (simp; omega)
        by_cases e2 : t.hi ≤ r.addr
        case pos =>
          have t2 : decide (t.hi ≤ r.addr) = true := by first | (simpa using e2) | (simp; omega)
          go_quiet (fail)
          go_wp2_with fail
          go_meet
          exact ⟨true, rfl, ⟨fun h => (by cases h), fun h => (by have := h.1; omega)⟩, (Ext.refl _).drewN _⟩
        have t2 : decide (t.hi ≤ r.addr) = false := by first | (simpa using e2) | (simp; omega)
        by_cases e0 : 0 < k
        case neg =>
          have t0 : decide (0 < k) = false := by simp; omega
          have e3 := HP0.out (by omega)
          have HE0 := Lib.hid e0
          clear e0
          by_cases e4 : r.off < 0
          case pos =>
            have t4 : decide (r.off < 0) = true := by first | (simpa using e4) | (simp; omega)
            go_quiet (fail)
            go_wp2_with fail
            go_meet
            exact ⟨true, rfl, ⟨fun h => (by cases h), fun h => (by have := h.1; omega)⟩, (Ext.refl _).drewN _⟩
          have t4 : decide (r.off < 0) = false := by first | (simpa using e4) | (simp; omega)
          by_cases e5 : 4096 < r.off
          case pos =>
            have t5 : decide (4096 < r.off) = true := by first | (simpa using e5) | (simp; omega)
            go_quiet (fail)
            go_wp2_with fail
            go_meet
            exact ⟨true, rfl, ⟨fun h => (by cases h), fun h => (by have := h.1; omega)⟩, (Ext.refl _).drewN _⟩
          have t5 : decide (4096 < r.off) = false := by first | (simpa using e5) | (simp; omega)
          go_quiet (fail)
          go_wp2_with fail
          go_meet
          exact ⟨false, rfl, ⟨fun _ => ⟨by omega, by omega, by omega, by omega⟩, fun _ => rfl⟩, (Ext.refl _).drewN _⟩
        obtain ⟨k1, hk1⟩ : ∃ k1, k = k1 + 1 := ⟨k - 1, by omega⟩
        obtain ⟨p, hp1, hp2⟩ := HPG.out e0
        have e3 := HPV.out p e0 hp1
        have t0 : decide (0 < k) = true := by simp; omega
        have wk : IntKind.i64.wrap ((k : Int) - 1) = (k1 : Int) := by rw [IntKind.wrap_i64]; omega
        have hkl : (k1 : Int) < (n2 : Int) := by omega
        rw [show k - 1 = k1 by omega] at hp2
        have HK1 := Lib.hid hk1
        clear hk1 hp1 e0
        by_cases e10 : r.addr ≤ p.addr
        case pos =>
          have t10 : decide (r.addr ≤ p.addr) = true := by first | (simpa using e10) | (simp; omega)
          go_quiet (fail)
          go_wp2_with fail
          go_meet
          exact ⟨true, rfl, ⟨fun h => (by cases h), fun h => (by have := h.1; omega)⟩, (Ext.refl _).drewN _⟩
        have t10 : decide (r.addr ≤ p.addr) = false := by first | (simpa using e10) | (simp; omega)
        by_cases e4 : r.off < 0
        case pos =>
          have t4 : decide (r.off < 0) = true := by first | (simpa using e4) | (simp; omega)
          go_quiet (fail)
          go_wp2_with fail
          go_meet
          exact ⟨true, rfl, ⟨fun h => (by cases h), fun h => (by have := h.1; omega)⟩, (Ext.refl _).drewN _⟩
        have t4 : decide (r.off < 0) = false := by first | (simpa using e4) | (simp; omega)
        by_cases e5 : 4096 < r.off
        case pos =>
          have t5 : decide (4096 < r.off) = true := by first | (simpa using e5) | (simp; omega)
          go_quiet (fail)
          go_wp2_with fail
          go_meet
          exact ⟨true, rfl, ⟨fun h => (by cases h), fun h => (by have := h.1; omega)⟩, (Ext.refl _).drewN _⟩
        have t5 : decide (4096 < r.off) = false := by first | (simpa using e5) | (simp; omega)
        go_quiet (fail)
        go_wp2_with fail
        go_meet
        exact ⟨false, rfl, ⟨fun _ => ⟨by omega, by omega, by omega, by omega⟩, fun _ => rfl⟩, (Ext.refl _).drewN _⟩
      obtain ⟨d, rfl, hd, hXc⟩ := hcut
      obtain ⟨wy, rfl⟩ : ∃ W : World, W = wc := ⟨_, rfl⟩
      have hXe := hXg.trans hXc
      clear p0 p1 p2 p3 s0 s1 hXg hXc HPG
      cases d with
      | true =>
        go_wp2_with fail
        go_ret
        refine Tells.no (fun h => ?_) (hE.trans hXe)
        have h4 := HRR.out.1 h.1
        rw [HDR.out] at h4
        have := hd.2 h4.1
        cases this
      | false =>
        have hok := hd.1 rfl
        have HRR2 : Hid (okStps t.lo t.hi t.steps ↔ okStps (r.addr + 1) t.hi (t.steps.drop (k + 1))) := Lib.hid (by
          rw [HRR.out, HDR.out]
          exact ⟨fun h => h.2, fun h => ⟨hok, h⟩⟩)
        have HPV2 : Hid (∀ p, 0 < k + 1 → t.steps[k + 1 - 1]? = some p → r.addr + 1 = p.addr + 1) := Lib.hid (fun p _ hp => by
          rw [show k + 1 - 1 = k by omega, HGK.out] at hp
          injection hp with hp
          rw [hp])
        have hwk1 : IntKind.i64.wrap ((k : Int) + 1) = ((k + 1 : Nat) : Int) := by rw [IntKind.wrap_i64]; omega
        clear hd HRR HDR HGK HPV HP0
        go_wp2_with fail
        go_roundw
        case rel => exact ⟨k + 1, r.addr + 1, by omega, by first | (with_reducible rfl) | go_num, by omega, HRR2, HPV2, Lib.hid (fun h => absurd h (by omega)), hXe⟩
        case measure => simp [intOf]; omega
    · have hki : ¬ (k : Int) < (n2 : Int) := by omega
      have HTR : Hid (okStps t.lo t.hi t.steps) := Lib.hid (by rw [HRR.out, List.drop_of_length_le (by have := HN2.out; omega)]; trivial)
      have hEz := hE.trans hXk
      have hBz := hXk.heap hB
      clear HRR HPV HP0 hXk hnx
      have hal := run_alloc_at wz
      have hSe := Seen.start
      generalize Array.replicate 6144 (Value.bool false) = C0 at *
      go_upto_region 8 with first | refine wpList_run rfl _ (by unfold execOp; simp only [Sem.run_bind, hal, Result.andThen_ok, Sem.run_pure]; rfl) ?_
      have hG5 := heap_alloc_new wz (.cells C0 132)
      have hXA := (Ext.refl wz).alloc (.cells C0 132)
      obtain ⟨g5, hg5⟩ : ∃ g, g = wz.heap.size := ⟨_, rfl⟩
      have hg5w : w.heap.size ≤ g5 := by rw [hg5]; exact hEz.size
      have hg51 : g5 ≠ g1 := by have := heap_lt hBz; omega
      rw [← hg5] at hG5 ⊢
      have hEa := hEz.trans hXA
      have hBa := hXA.heap hBz
      clear hal hg5 hEz hBz hXA hE hB
      generalize wz.alloc (.cells C0 132) = wa at *
      obtain ⟨q0, q1, q2, q3⟩ := blkR hBa
      go_wp2_with fail
      clear q0 q1 q2 q3 hki hk
      go_loopw [58] (fun i wr => ∃ (j : Nat) (C : Array Value), j ≤ n3 ∧ i = .int .i64 (j : Int) ∧ Hid (okObjs (t.objs.take j)) ∧ Hid (Seen C (t.objs.take j)) ∧ wr.heap[g5]? = some (.cells C 132 (0, 0)) ∧ Ext w wr) (fun i _ => n3 - (intOf i).toNat)
      case atStart => exact ⟨0, C0, by omega, rfl, Lib.hid (by rw [List.take_zero]; exact okObjs_nil), Lib.hid (by rw [List.take_zero]; exact hSe), hG5, hEa⟩
      case round =>
        clear hSe hG5 hEa
        obtain ⟨j, C, hj, rfl, HOK, HS, hG5, hX⟩ := hrel
        obtain ⟨wq, rfl⟩ : ∃ W : World, W = wr := ⟨_, rfl⟩
        by_cases hlj : j < n3
        · have hji : (j : Int) < (n3 : Int) := by omega
          have hlj' : j < t.objs.length := by rw [← HN3.out]; exact hlj
          obtain ⟨b3, o3, hAe, hra⟩ := (HZ.out.ext hX).at_ (k := 4) (fun _ _ => rfl) (by omega) hlj'
          subst hAe
          have HTK := Lib.hid (List.take_succ_eq_append_getElem hlj')
          have HNX := Lib.hid (fun h => okObjs_next (l := t.objs) hlj' h)
          generalize t.objs[j] = o at *
          have hld := obj_load hra
          obtain ⟨hst, hG, hXG⟩ := box_new (P := Try.prog) wq 83 #[.int .i64 0, .int .i64 0, .int .i64 0, .int .i64 0] #[.int .i64 o.ctx, .int .i64 o.var, .int .i64 o.slot, .int .i64 o.words] ob_size rfl (by simp [Value.oneCell'])
          go_upto_region 11 with first | refine wpList_load_run rfl 83 (.tmp 60) rfl _ _ rfl hld ?_ | refine wpList_store_run rfl 83 (.tmp 7) (.tmp 61) rfl _ _ _ rfl rfl hst ?_
          obtain ⟨g7, hg7⟩ : ∃ g, g = wq.heap.size := ⟨_, rfl⟩
          have hg75 : g7 ≠ g5 := by have := heap_lt hG5; omega
          rw [← hg7] at hG hXG ⊢
          generalize (wq.alloc (.cells #[.int .i64 0, .int .i64 0, .int .i64 0, .int .i64 0] 83)).setRow g7 #[.int .i64 o.ctx, .int .i64 o.var, .int .i64 o.slot, .int .i64 o.words] = wg at *
          dsimp only [Act.put]
          have hXg := hX.trans hXG
          have hGg := hXG.heap hG5
          obtain ⟨r0, r1, r2, r3⟩ := blkR hG
          clear hst hld hra hXG hX hG5 hg7
          go_cut [108] (fun s wx => ∃ d : Bool, s = .bool d ∧ (d = false ↔ (okObj o ∧ objName o ∉ (t.objs.take j).map objName)) ∧ Ext wg wx)
          case first =>
            by_cases e1 : o.ctx < 0
            case pos =>
              have t1 : decide (o.ctx < 0) = true := by first | (simpa using e1) | (simp; omega)
              go_quiet (fail)
              go_wp2_with fail
              go_meet
              exact ⟨true, rfl, ⟨fun h => (by cases h), fun h => (by have := h.1; unfold okObj at this; omega)⟩, (Ext.refl _).drewN _⟩
            have t1 : decide (o.ctx < 0) = false := by first | (simpa using e1) | (simp; omega)
            by_cases e2 : 255 < o.ctx
            case pos =>
              have t2 : decide (255 < o.ctx) = true := by first | (simpa using e2) | (simp; omega)
              go_quiet (fail)
              go_wp2_with fail
              go_meet
              exact ⟨true, rfl, ⟨fun h => (by cases h), fun h => (by have := h.1; unfold okObj at this; omega)⟩, (Ext.refl _).drewN _⟩
            have t2 : decide (255 < o.ctx) = false := by first | (simpa using e2) | (simp; omega)
            by_cases e3 : o.var < 0
            case pos =>
              have t3 : decide (o.var < 0) = true := by first | (simpa using e3) | (simp; omega)
              go_quiet (fail)
              go_wp2_with fail
              go_meet
              exact ⟨true, rfl, ⟨fun h => (by cases h), fun h => (by have := h.1; unfold okObj at this; omega)⟩, (Ext.refl _).drewN _⟩
            have t3 : decide (o.var < 0) = false := by first | (simpa using e3) | (simp; omega)
            by_cases e4 : 24 ≤ o.var
            case pos =>
              have t4 : decide (24 ≤ o.var) = true := by first | (simpa using e4) | (simp; omega)
              go_quiet (fail)
              go_wp2_with fail
              go_meet
              exact ⟨true, rfl, ⟨fun h => (by cases h), fun h => (by have := h.1; unfold okObj at this; omega)⟩, (Ext.refl _).drewN _⟩
            have t4 : decide (24 ≤ o.var) = false := by first | (simpa using e4) | (simp; omega)
            by_cases e5 : o.slot < 0
            case pos =>
              have t5 : decide (o.slot < 0) = true := by first | (simpa using e5) | (simp; omega)
              go_quiet (fail)
              go_wp2_with fail
              go_meet
              exact ⟨true, rfl, ⟨fun h => (by cases h), fun h => (by have := h.1; unfold okObj at this; omega)⟩, (Ext.refl _).drewN _⟩
            have t5 : decide (o.slot < 0) = false := by first | (simpa using e5) | (simp; omega)
            by_cases e6 : 4096 < o.slot
            case pos =>
              have t6 : decide (4096 < o.slot) = true := by first | (simpa using e6) | (simp; omega)
              go_quiet (fail)
              go_wp2_with fail
              go_meet
              exact ⟨true, rfl, ⟨fun h => (by cases h), fun h => (by have := h.1; unfold okObj at this; omega)⟩, (Ext.refl _).drewN _⟩
            have t6 : decide (4096 < o.slot) = false := by first | (simpa using e6) | (simp; omega)
            by_cases e7 : o.words < 1
            case pos =>
              have t7 : decide (o.words < 1) = true := by first | (simpa using e7) | (simp; omega)
              go_quiet (fail)
              go_wp2_with fail
              go_meet
              exact ⟨true, rfl, ⟨fun h => (by cases h), fun h => (by have := h.1; unfold okObj at this; omega)⟩, (Ext.refl _).drewN _⟩
            have t7 : decide (o.words < 1) = false := by first | (simpa using e7) | (simp; omega)
            by_cases e8 : 8 < o.words
            case pos =>
              have t8 : decide (8 < o.words) = true := by first | (simpa using e8) | (simp; omega)
              go_quiet (fail)
              go_wp2_with fail
              go_meet
              exact ⟨true, rfl, ⟨fun h => (by cases h), fun h => (by have := h.1; unfold okObj at this; omega)⟩, (Ext.refl _).drewN _⟩
            have t8 : decide (8 < o.words) = false := by first | (simpa using e8) | (simp; omega)
            obtain ⟨c, hc⟩ : ∃ c : Nat, o.ctx = (c : Int) := ⟨o.ctx.toNat, by omega⟩
            obtain ⟨v, hv⟩ : ∃ v : Nat, o.var = (v : Int) := ⟨o.var.toNat, by omega⟩
            have hcell := blk_at hGg (c * 24 + v) _ (HS.out.2 c v (by omega) (by omega))
            have hnm : ((c : Int), (v : Int)) = objName o := by unfold objName; rw [hc, hv]
            rw [hnm] at hcell
            obtain ⟨bs, hbs⟩ : ∃ b, b = decide (objName o ∈ (t.objs.take j).map objName) := ⟨_, rfl⟩
            rw [← hbs] at hcell
            have HPO : Hid ((bs = false) ↔ (okObj o ∧ objName o ∉ (t.objs.take j).map objName)) := Lib.hid (by
              rw [hbs]
              simp only [decide_eq_false_iff_not]
              exact ⟨fun h => ⟨by unfold okObj; omega, h⟩, fun h => h.2⟩)
            have hcl : c < 256 := by omega
            have hvl : v < 24 := by omega
            clear e1 e2 e3 e4 hnm hbs
            rw [hc] at r0 t1 t2
            rw [hv] at r1 t3 t4
            have t2' : decide (255 < c) = false := by simp; omega
            have t4' : decide (24 ≤ v) = false := by simp; omega
            have i1 : (c : Int) < 256 := by omega
            have i2 : (v : Int) < 24 := by omega
            clear hc hv
            go_quiet (fail)
            go_wp2_with fail
            go_meet
            exact ⟨bs, rfl, HPO.out, (Ext.refl _).drewN _⟩
          obtain ⟨d, rfl, hd, hXc⟩ := hcut
          obtain ⟨wy, rfl⟩ : ∃ W : World, W = wc := ⟨_, rfl⟩
          have hXe := hXg.trans hXc
          have hGy := hXc.heap hGg
          have hHy := hXc.heap hG
          clear r0 r1 r2 r3 hXg hXc hGg hG
          cases d with
          | true =>
            go_wp2_with fail
            go_ret
            refine Tells.no (fun h => ?_) hXe
            have := hd.2 (HNX.out h.2)
            cases this
          | false =>
            have hok := hd.1 rfl
            have HOKN : Hid (okObjs (t.objs.take (j + 1))) := Lib.hid (by rw [HTK.out]; exact okObjs_snoc.2 ⟨HOK.out, hok.1, hok.2⟩)
            have hob := hok.1
            unfold okObj at hob
            obtain ⟨c, hc⟩ : ∃ c : Nat, o.ctx = (c : Int) := ⟨o.ctx.toNat, by omega⟩
            obtain ⟨v, hv⟩ : ∃ v : Nat, o.var = (v : Int) := ⟨o.var.toNat, by omega⟩
            have HSN : Hid (Seen (C.setIfInBounds (c * 24 + v) (.bool true)) (t.objs.take (j + 1))) := Lib.hid (by
              rw [HTK.out]
              exact HS.out.push (by omega) (by omega) hc hv)
            have hcell := HS.out.2 c v (by omega) (by omega)
            obtain ⟨bs, hbs⟩ : ∃ b, b = decide (((c : Int), (v : Int)) ∈ (t.objs.take j).map objName) := ⟨_, rfl⟩
            rw [← hbs] at hcell
            have i1 : (c : Int) < 256 := by omega
            have i2 : (v : Int) < 24 := by omega
            rw [hc, hv] at hHy
            clear hd hok hob hbs
            have z0 := blk_at hHy 0 _ rfl
            have z1 := blk_at hHy 1 _ rfl
            go_upto_region 13 with fail
            refine wp_region_X #[true, true, true, true, true, true, false] 6 1 (by kernel_rfl) rfl ?_
            refine wpX_vt 0 (.pointer (some ⟨g7, 0, none⟩)) rfl rfl (by kernel_rfl) (by kernel_rfl) (by kernel_rfl) (fun _ _ _ _ h => h) (by kernel_rfl) rfl (by rfl) (fun W' hW => by
              skip
              go_simp) ?_
            simp only [List.setIfInBounds_toArray, List.set_cons_zero, List.set_cons_succ]
            refine wpX_vt 1 (.int .i64 (c : Int)) rfl rfl (by kernel_rfl) (by kernel_rfl) (by kernel_rfl) (fun _ _ _ _ h => h) (by kernel_rfl) rfl (by rfl) (fun W' hW => by
              have z := (((Ext.refl wy).drew).trans hW).cell z0
              go_simp) ?_
            simp only [List.setIfInBounds_toArray, List.set_cons_zero, List.set_cons_succ]
            refine wpX_vt 2 (.pointer (some ⟨g7, 1, none⟩)) rfl rfl (by kernel_rfl) (by kernel_rfl) (by kernel_rfl) (fun _ _ _ _ h => h) (by kernel_rfl) rfl (by rfl) (fun W' hW => by
              skip
              go_simp) ?_
            simp only [List.setIfInBounds_toArray, List.set_cons_zero, List.set_cons_succ]
            refine wpX_vt 3 (.int .i64 (v : Int)) rfl rfl (by kernel_rfl) (by kernel_rfl) (by kernel_rfl) (fun _ _ _ _ h => h) (by kernel_rfl) rfl (by rfl) (fun W' hW => by
              have z := (((Ext.refl wy).drew).trans hW).cell z1
              go_simp) ?_
            simp only [List.setIfInBounds_toArray, List.set_cons_zero, List.set_cons_succ]
            refine wpX_vt 4 (.pointer (some ⟨g5, c * 24, none⟩)) rfl rfl (by kernel_rfl) (by kernel_rfl) (by kernel_rfl) (fun _ _ _ _ h => h) (by kernel_rfl) rfl (by rfl) (fun W' hW => by
              skip
              go_simp) ?_
            simp only [List.setIfInBounds_toArray, List.set_cons_zero, List.set_cons_succ]
            refine wpX_vt 5 (.pointer (some ⟨g5, c * 24 + v, none⟩)) rfl rfl (by kernel_rfl) (by kernel_rfl) (by kernel_rfl) (fun _ _ _ _ h => h) (by kernel_rfl) rfl (by rfl) (fun W' hW => by
              skip
              go_simp) ?_
            simp only [List.setIfInBounds_toArray, List.set_cons_zero, List.set_cons_succ]
            refine wpX_end rfl fun W7 hW7 => tail_seq 6 rfl (by kernel_rfl) ?_
            simp only [List.drop_succ_cons, List.drop_zero]
            have hX7 := ((Ext.refl wy).drew).trans hW7
            have hG7 := hX7.heap hGy
            have f1 := blk_free hG7 (c * 24 + v)
            have k1 := blk_at hG7 (c * 24 + v) _ hcell
            have hlt := heap_lt hG7
            have hXw := hXe.trans hX7
            clear hX7 hW7 z0 z1 hcell hHy hGy hXe
            go_wp2_with fail
            refine NoPanic.normal ?_
            have s7 := gset W7 ⟨g5, c * 24 + v, none⟩ (.bool true)
            have hGn : (W7.setCell ⟨g5, c * 24 + v, none⟩ (.bool true)).heap[g5]? = some (.cells (C.setIfInBounds (c * 24 + v) (.bool true)) 132 (0, 0)) := blk_set hG7 _ _
            have hXn := hXw.grown s7 (fun k e => by cases e; exact hg5w)
            clear s7 hG7 f1 k1 hlt hXw
            generalize W7.setCell ⟨g5, c * 24 + v, none⟩ (.bool true) = wn at *
            generalize C.setIfInBounds (c * 24 + v) (.bool true) = Cn at *
            clear hc hv i1 i2
            go_wp2_with fail
            go_roundw
            case rel => exact ⟨j + 1, Cn, by omega, by first | (with_reducible rfl) | go_num, HOKN, HSN, hGn, hXn⟩
            case measure => simp [intOf]; omega
        · have hji : ¬ (j : Int) < (n3 : Int) := by omega
          have HT : Hid (okObjs t.objs) := Lib.hid (by have := HOK.out; rw [List.take_of_length_le (by have := HN3.out; omega)] at this; exact this)
          go_wp2_with fail
          go_ret
          exact Tells.yes ⟨HTR.out, HT.out⟩ hX
end Go.Proofs.Ytokmbdeafjmcjaa
