/- What may be encoded: the walks of rightSteps and rightObjects. -/
import Derived.Test.YtokmbdeafjmcjaaCfM
import Derived.Test.YtokmbdeafjmcjaaCfT
import Derived.Maps.OwnOps
namespace Go.Proofs.Ytokmbdeafjmcjaa
open Go.RowKit
set_option linter.unusedVariables false

set_option maxHeartbeats 4000000 in
set_option maxRecDepth 100000 in
theorem rightSteps_any (t : FTab) (y z : Value) (w : World) (hy : InR stpCells w y t.steps) (hz : InR objCells w z t.objs) (hI : t.I) :
    Calls Try.prog 47 #[.agg #[.int .i64 t.lo, .int .i64 t.hi, y, z]] w (Tells (okStps t.lo t.hi t.steps) w) := by
  obtain ⟨A2, c2, rfl, _, _⟩ := id hy
  obtain ⟨A3, c3, rfl, _, _⟩ := hz
  have hlen := hI.steps
  have hlo := hI.lo
  have hhi := hI.hi
  go_enter Try.func47, Try.ntmps47
  go_upto_region 1 with fail
  obtain ⟨W, hW, hE, hB⟩ : ∃ W, W = w.alloc (.cells #[.int .i64 t.lo, .int .i64 t.hi, .slice A2 t.steps.length c2, .slice A3 t.objs.length c3] 27) ∧ Ext w W ∧ W.heap[w.heap.size]? = some (.cells #[.int .i64 t.lo, .int .i64 t.hi, .slice A2 t.steps.length c2, .slice A3 t.objs.length c3] 27 (0, 0)) := ⟨_, rfl, (Ext.refl w).alloc _, heap_alloc_new w _⟩
  rw [← hW]
  clear hW
  obtain ⟨q0, q1, q2, q3⟩ := blkR hB
  go_wp2_with fail
  go_loopw [3, 11] (fun v i wr => ∃ (j : Nat) (next : Int), j ≤ t.steps.length ∧ i = .int .i64 (j : Int) ∧ v = .int .i64 next ∧ (-9223372036854775808 ≤ next ∧ next ≤ 9223372036854775807) ∧ Hid (okStps t.lo t.hi t.steps ↔ okStps next t.hi (t.steps.drop j)) ∧ Ext W wr) (fun _ i _ => t.steps.length - (intOf i).toNat)
  case atStart => exact ⟨0, t.lo, by omega, rfl, rfl, hlo, Lib.hid (by rw [List.drop_zero]), Ext.refl _⟩
  case round =>
    obtain ⟨j, next, hj, rfl, rfl, hn, HR, hX⟩ := hrel
    obtain ⟨wo, rfl⟩ : ∃ wo : World, wo = wr := ⟨_, rfl⟩
    by_cases hlt : j < t.steps.length
    · have hij : (j : Int) < (t.steps.length : Int) := by omega
      obtain ⟨bb, oo, rfl, hra⟩ := (hy.ext (hE.trans hX)).at_ (k := 2) (fun _ _ => rfl) (by omega) hlt
      have HD := Lib.hid (List.drop_eq_getElem_cons hlt)
      generalize t.steps[j] = r at *
      have hld := stp_load hra
      have hp1 := hX.cell q1
      obtain ⟨hst, hG, hXG⟩ := box_new (P := Try.prog) wo 78 #[.int .i64 0, .int .i64 0] #[.int .i64 r.addr, .int .i64 r.off] sp_size rfl (by simp [Value.oneCell'])
      go_upto_region 5 with first | refine wpList_load_run rfl 78 (.tmp 13) rfl _ _ rfl hld ?_ | refine wpList_store_run rfl 78 (.tmp 5) (.tmp 14) rfl _ _ _ rfl rfl hst ?_
      obtain ⟨g, hg⟩ : ∃ g, g = wo.heap.size := ⟨_, rfl⟩
      rw [← hg] at hG hXG ⊢
      generalize (wo.alloc (.cells #[.int .i64 0, .int .i64 0] 78)).setRow g #[.int .i64 r.addr, .int .i64 r.off] = wg at *
      dsimp only [Act.put]
      obtain ⟨r0, r1⟩ := blk2 hG
      have h1 := hXG.cell hp1
      have hXX := hX.trans hXG
      clear hst hld hra hp1 hG hXG hX hg
      go_cut [35] (fun s wx => ∃ d : Bool, s = .bool d ∧ (d = false ↔ (next ≤ r.addr ∧ r.addr < t.hi ∧ 0 ≤ r.off ∧ r.off ≤ 4096)) ∧ wx = wg)
      case first =>
        by_cases e1 : r.addr < next
        case pos =>
          have t1 : decide (r.addr < next) = true := by first | (simpa using e1) | (simp; omega)
          go_wp2_with fail
          go_meet
          exact ⟨true, rfl, ⟨fun h => (by cases h), fun h => (by omega)⟩, rfl⟩
        have t1 : decide (r.addr < next) = false := by first | (simpa using e1) | (simp; omega)
        by_cases e2 : t.hi ≤ r.addr
        case pos =>
          have t2 : decide (t.hi ≤ r.addr) = true := by first | (simpa using e2) | (simp; omega)
          go_wp2_with fail
          go_meet
          exact ⟨true, rfl, ⟨fun h => (by cases h), fun h => (by omega)⟩, rfl⟩
        have t2 : decide (t.hi ≤ r.addr) = false := by first | (simpa using e2) | (simp; omega)
        by_cases e3 : r.off < 0
        case pos =>
          have t3 : decide (r.off < 0) = true := by first | (simpa using e3) | (simp; omega)
          go_wp2_with fail
          go_meet
          exact ⟨true, rfl, ⟨fun h => (by cases h), fun h => (by omega)⟩, rfl⟩
        have t3 : decide (r.off < 0) = false := by first | (simpa using e3) | (simp; omega)
        by_cases e4 : 4096 < r.off
        case pos =>
          have t4 : decide (4096 < r.off) = true := by first | (simpa using e4) | (simp; omega)
          go_wp2_with fail
          go_meet
          exact ⟨true, rfl, ⟨fun h => (by cases h), fun h => (by omega)⟩, rfl⟩
        have t4 : decide (4096 < r.off) = false := by first | (simpa using e4) | (simp; omega)
        go_wp2_with fail
        go_meet
        exact ⟨false, rfl, ⟨fun _ => (by omega), fun _ => rfl⟩, rfl⟩
      obtain ⟨d, rfl, hd, rfl⟩ := hcut
      cases d with
      | true =>
        go_wp2_with fail
        go_ret
        refine Tells.no (fun h => ?_) (hE.trans hXX)
        have h2 := HR.out.1 h
        rw [HD.out] at h2
        have := hd.2 h2.1
        cases this
      | false =>
        have hok := hd.1 rfl
        have HOK : Hid (okStps t.lo t.hi t.steps ↔ okStps (r.addr + 1) t.hi (t.steps.drop (j + 1))) := Lib.hid (by
          rw [HR.out, HD.out]
          exact ⟨fun h => h.2, fun h => ⟨hok, h⟩⟩)
        have hwr : IntKind.i64.wrap (r.addr + 1) = r.addr + 1 := by rw [IntKind.wrap_i64]; omega
        clear hd HR HD
        go_wp2_with fail
        go_roundw
        case rel => exact ⟨j + 1, r.addr + 1, by omega, by first | (with_reducible rfl) | go_num, by first | (with_reducible rfl) | go_num, by omega, HOK, hXX⟩
        case measure => simp [intOf]; omega
    · have hij : ¬ (j : Int) < (t.steps.length : Int) := by omega
      have HT : Hid (okStps t.lo t.hi t.steps) := Lib.hid (by rw [HR.out, List.drop_of_length_le (by omega)]; trivial)
      go_wp2_with fail
      go_ret
      exact Tells.yes HT.out (hE.trans hX)
theorem okObjs_next {l : List Obj} {j : Nat} (hj : j < l.length) (h : okObjs l) : okObj l[j] ∧ objName l[j] ∉ (l.take j).map objName := by
  have h1 := okObjs_take (j + 1) h
  rw [List.take_succ_eq_append_getElem hj] at h1
  have h2 := okObjs_snoc.1 h1
  exact ⟨h2.2.1, h2.2.2⟩
set_option maxHeartbeats 40000000 in
set_option maxRecDepth 100000 in
theorem rightObjects_any (l : List Obj) (z : Value) (w : World) (hz : InR objCells w z l) (hl : l.length ≤ 9223372036854775807) :
    Calls Try.prog 48 #[z] w (Tells (okObjs l) w) := by
  obtain ⟨A3, c3, rfl, _, _⟩ := id hz
  have HZ := Lib.hid hz
  clear hz
  go_enter Try.func48, Try.ntmps48
  have hmk : (Instr.makeMap 128 none).run Try.prog w = .ok (.map (some w.heap.size)) (w.alloc (.map #[] 0)) := rfl
  go_upto_region 2 with fail
  clear hmk
  obtain ⟨b, hb⟩ : ∃ b, b = w.heap.size := ⟨_, rfl⟩
  have hM := MS.made w
  have hE := (Ext.refl w).alloc (.map #[] 0)
  rw [← hb] at hM ⊢
  generalize w.alloc (.map #[] 0) = W at *
  have hM2 : MS b b 0 W (fun _ => .slice none 0 0) (fun c => rowsAt c []) := hM
  have hbw : w.heap.size ≤ b := by omega
  clear hM hb
  go_wp2_with fail
  go_loopw [12] (fun i wr => ∃ (j : Nat) (V : Int → Value), j ≤ l.length ∧ i = .int .i64 (j : Int) ∧ Hid (okObjs (l.take j)) ∧ MS b b j wr V (fun c => rowsAt c (l.take j)) ∧ Ext w wr) (fun i _ => l.length - (intOf i).toNat)
  case atStart => exact ⟨0, _, by omega, rfl, Lib.hid (by rw [List.take_zero]; exact okObjs_nil), hM2, hE⟩
  case round =>
    clear hM2 hE
    obtain ⟨j, V, hj, rfl, HOK, hM, hX⟩ := hrel
    obtain ⟨wo, rfl⟩ : ∃ wo : World, wo = wr := ⟨_, rfl⟩
    by_cases hlt : j < l.length
    · have hij : (j : Int) < (l.length : Int) := by omega
      obtain ⟨bb, oo, rfl, hra⟩ := (HZ.out.ext hX).at_ (k := 4) (fun _ _ => rfl) (by omega) hlt
      have HTK := Lib.hid (List.take_succ_eq_append_getElem hlt)
      have HNX := Lib.hid (fun h => okObjs_next (l := l) hlt h)
      have hj61 : j ≤ 6144 := by have h1 := okObjs_len HOK.out; rw [List.length_take] at h1; omega
      generalize l[j] = o at *
      have hld := obj_load hra
      obtain ⟨hst, hG, hXG⟩ := box_new (P := Try.prog) wo 83 #[.int .i64 0, .int .i64 0, .int .i64 0, .int .i64 0] #[.int .i64 o.ctx, .int .i64 o.var, .int .i64 o.slot, .int .i64 o.words] ob_size rfl (by simp [Value.oneCell'])
      go_upto_region 5 with first | refine wpList_load_run rfl 83 (.tmp 14) rfl _ _ rfl hld ?_ | refine wpList_store_run rfl 83 (.tmp 5) (.tmp 15) rfl _ _ _ rfl rfl hst ?_
      obtain ⟨g5, hg5⟩ : ∃ g, g = wo.heap.size := ⟨_, rfl⟩
      rw [← hg5] at hG hXG ⊢
      generalize (wo.alloc (.cells #[.int .i64 0, .int .i64 0, .int .i64 0, .int .i64 0] 83)).setRow g5 #[.int .i64 o.ctx, .int .i64 o.var, .int .i64 o.slot, .int .i64 o.words] = wg at *
      dsimp only [Act.put]
      obtain ⟨r0, r1, r2, r3⟩ := blkR hG
      have hMg := hM.ext hXG
      have hXX := hX.trans hXG
      clear hst hld hra hXG hX hg5 hM
      go_cut [33] (fun s wx => ∃ d : Bool, s = .bool d ∧ (d = false ↔ (0 ≤ o.ctx ∧ o.ctx ≤ 255 ∧ 0 ≤ o.var ∧ o.var < 24)) ∧ wx = wg)
      case first =>
        by_cases e1 : o.ctx < 0
        case pos =>
          have t1 : decide (o.ctx < 0) = true := by first | (simpa using e1) | (simp; omega)
          go_wp2_with fail
          go_meet
          exact ⟨true, rfl, ⟨fun h => (by cases h), fun h => (by omega)⟩, rfl⟩
        have t1 : decide (o.ctx < 0) = false := by first | (simpa using e1) | (simp; omega)
        by_cases e2 : 255 < o.ctx
        case pos =>
          have t2 : decide (255 < o.ctx) = true := by first | (simpa using e2) | (simp; omega)
          go_wp2_with fail
          go_meet
          exact ⟨true, rfl, ⟨fun h => (by cases h), fun h => (by omega)⟩, rfl⟩
        have t2 : decide (255 < o.ctx) = false := by first | (simpa using e2) | (simp; omega)
        by_cases e3 : o.var < 0
        case pos =>
          have t3 : decide (o.var < 0) = true := by first | (simpa using e3) | (simp; omega)
          go_wp2_with fail
          go_meet
          exact ⟨true, rfl, ⟨fun h => (by cases h), fun h => (by omega)⟩, rfl⟩
        have t3 : decide (o.var < 0) = false := by first | (simpa using e3) | (simp; omega)
        by_cases e4 : 24 ≤ o.var
        case pos =>
          have t4 : decide (24 ≤ o.var) = true := by first | (simpa using e4) | (simp; omega)
          go_wp2_with fail
          go_meet
          exact ⟨true, rfl, ⟨fun h => (by cases h), fun h => (by omega)⟩, rfl⟩
        have t4 : decide (24 ≤ o.var) = false := by first | (simpa using e4) | (simp; omega)
        go_wp2_with fail
        go_meet
        exact ⟨false, rfl, ⟨fun _ => (by omega), fun _ => rfl⟩, rfl⟩
      obtain ⟨d, rfl, hd, hwe⟩ := hcut
      subst hwe
      obtain ⟨w5, rfl⟩ : ∃ W : World, W = wc := ⟨_, rfl⟩
      cases d with
      | true =>
        go_wp2_with fail
        go_ret
        refine Tells.no (fun h => ?_) hXX
        have h2 := (HNX.out h).1
        unfold okObj at h2
        have := hd.2 (by omega)
        cases this
      | false =>
        have hok1 := hd.1 rfl
        clear hd
        go_upto_region 7 with fail
        go_cut [51] (fun s wx => ∃ d : Bool, s = .bool d ∧ (d = false ↔ (0 ≤ o.slot ∧ o.slot ≤ 4096 ∧ 1 ≤ o.words ∧ o.words ≤ 8)) ∧ wx = w5)
        case first =>
          by_cases e1 : o.slot < 0
          case pos =>
            have t1 : decide (o.slot < 0) = true := by first | (simpa using e1) | (simp; omega)
            go_wp2_with fail
            go_meet
            exact ⟨true, rfl, ⟨fun h => (by cases h), fun h => (by omega)⟩, rfl⟩
          have t1 : decide (o.slot < 0) = false := by first | (simpa using e1) | (simp; omega)
          by_cases e2 : 4096 < o.slot
          case pos =>
            have t2 : decide (4096 < o.slot) = true := by first | (simpa using e2) | (simp; omega)
            go_wp2_with fail
            go_meet
            exact ⟨true, rfl, ⟨fun h => (by cases h), fun h => (by omega)⟩, rfl⟩
          have t2 : decide (4096 < o.slot) = false := by first | (simpa using e2) | (simp; omega)
          by_cases e3 : o.words < 1
          case pos =>
            have t3 : decide (o.words < 1) = true := by first | (simpa using e3) | (simp; omega)
            go_wp2_with fail
            go_meet
            exact ⟨true, rfl, ⟨fun h => (by cases h), fun h => (by omega)⟩, rfl⟩
          have t3 : decide (o.words < 1) = false := by first | (simpa using e3) | (simp; omega)
          by_cases e4 : 8 < o.words
          case pos =>
            have t4 : decide (8 < o.words) = true := by first | (simpa using e4) | (simp; omega)
            go_wp2_with fail
            go_meet
            exact ⟨true, rfl, ⟨fun h => (by cases h), fun h => (by omega)⟩, rfl⟩
          have t4 : decide (8 < o.words) = false := by first | (simpa using e4) | (simp; omega)
          go_wp2_with fail
          go_meet
          exact ⟨false, rfl, ⟨fun _ => (by omega), fun _ => rfl⟩, rfl⟩
        obtain ⟨d, rfl, hd, hwe⟩ := hcut
        subst hwe
        obtain ⟨w6, rfl⟩ : ∃ W : World, W = wc := ⟨_, rfl⟩
        cases d with
        | true =>
          go_wp2_with fail
          go_ret
          refine Tells.no (fun h => ?_) hXX
          have h2 := (HNX.out h).1
          unfold okObj at h2
          have := hd.2 (by omega)
          cases this
        | false =>
          have hok2 := hd.1 rfl
          clear hd
          obtain ⟨hst, hG6, hXG⟩ := box_new (P := Try.prog) w6 129 #[.int .i64 0, .int .i64 0] #[.int .i64 o.ctx, .int .i64 o.var] ar_size rfl (by simp [Value.oneCell'])
          go_upto_region 10 with first | refine wpList_store_run rfl 129 (.tmp 6) (.tmp 56) rfl _ _ _ rfl rfl hst ?_
          obtain ⟨g6, hg6⟩ : ∃ g, g = w6.heap.size := ⟨_, rfl⟩
          rw [← hg6] at hG6 hXG ⊢
          generalize (w6.alloc (.cells #[.int .i64 0, .int .i64 0] 129)).setRow g6 #[.int .i64 o.ctx, .int .i64 o.var] = w7 at *
          have hM7 := hMg.ext hXG
          have hX7 := hXX.trans hXG
          have hG5 := hXG.heap hG
          obtain ⟨r0, r1, r2, r3⟩ := blkR hG5
          have hlk := hM7.look (c := o.ctx) (W' := w7) (by omega) ((Ext.refl w7).grownBy _)
          have hrow := hM7.row o.ctx
          have hne6 : (V o.ctx).ownBlock ≠ some g6 := fun e => by
            have h1 := (hMg.row o.ctx).lt g6 e
            omega
          obtain ⟨AV, cV, hV, _, _⟩ := hrow.inR
          obtain ⟨nv, hnv⟩ : ∃ n, n = (rowsAt o.ctx (l.take j)).length := ⟨_, rfl⟩
          have hnvl : nv ≤ 6144 := by have := rowsAt_len o.ctx (l.take j); have h2 := okObjs_len HOK.out; omega
          rw [← hnv] at hV
          rw [hV] at hlk hne6
          have HV := Lib.hid hV
          have HNV := Lib.hid hnv
          clear hst hg6 hXG hMg hXX hG hnv hV
          go_wp2_with fail
          clear r0 r1 r2 r3 hlk
          have hrow' : OwnR pairCells 2 129 b w7 (.slice AV nv cV) (rowsAt o.ctx (l.take j)) := by rw [← HV.out]; exact hrow
          clear hrow
          go_loopw [62] (fun i wr => ∃ (k : Nat), k ≤ nv ∧ i = .int .i64 (k : Int) ∧ Hid (objName o ∉ (rowsAt o.ctx (l.take j)).take k) ∧ Ext w7 wr) (fun i _ => nv - (intOf i).toNat)
          case atStart => exact ⟨0, by omega, rfl, Lib.hid (by simp), Ext.refl _⟩
          case round =>
            obtain ⟨k, hk, rfl, HK, hXz⟩ := hrel
            obtain ⟨wz, rfl⟩ : ∃ wz : World, wz = wr := ⟨_, rfl⟩
            by_cases hltk : k < nv
            · have hik : (k : Int) < (nv : Int) := by omega
              have hltk' : k < (rowsAt o.ctx (l.take j)).length := by rw [← HNV.out]; exact hltk
              obtain ⟨bv, ov, rfl, hrp⟩ := (hrow'.ext hXz).inR.at_ (k := 2) (fun _ _ => rfl) (by omega) hltk'
              have HTN := Lib.hid (List.take_succ_eq_append_getElem hltk')
              have HFS := Lib.hid (rowsAt_fst (List.getElem_mem hltk'))
              have HMM := Lib.hid (List.getElem_mem hltk')
              generalize (rowsAt o.ctx (l.take j))[k] = p at *
              have hld := pair_load hrp
              obtain ⟨hst, hG8, hXG⟩ := box_new (P := Try.prog) wz 129 #[.int .i64 0, .int .i64 0] #[.int .i64 p.1, .int .i64 p.2] ar_size rfl (by simp [Value.oneCell'])
              go_upto_region 13 with first | refine wpList_load_run rfl 129 (.tmp 64) rfl _ _ rfl hld ?_ | refine wpList_store_run rfl 129 (.tmp 8) (.tmp 65) rfl _ _ _ rfl rfl hst ?_
              obtain ⟨g8, hg8⟩ : ∃ g, g = wz.heap.size := ⟨_, rfl⟩
              rw [← hg8] at hG8 hXG ⊢
              generalize (wz.alloc (.cells #[.int .i64 0, .int .i64 0] 129)).setRow g8 #[.int .i64 p.1, .int .i64 p.2] = wy at *
              dsimp only [Act.put]
              have hH6 := (hXz.trans hXG).heap hG6
              have hld8 := run_loadAt_blk (P := Try.prog) wy g8 129 129 _ (0, 0) _ hG8 Try.underlying129 rfl ar_size
              have hld6 := run_loadAt_blk (P := Try.prog) wy g6 129 129 _ (0, 0) _ hH6 Try.underlying129 rfl ar_size
              have hXy := hXz.trans hXG
              clear hst hld hrp hXG hg8 hXz
              have hp1 : p.1 = o.ctx := HFS.out
              have heq := eq_ar p.1 p.2 o.ctx o.var wy
              by_cases hpv : p.2 = o.var
              · have e2 : decide ([p.1, p.2] = [o.ctx, o.var]) = true := by simp [hp1, hpv]
                have HPV := Lib.hid hpv
                rw [e2] at heq
                clear hpv hp1 e2
                go_wp2_with first | refine wpList_load_run rfl 129 (.tmp 8) rfl _ _ rfl hld8 ?_ | refine wpList_load_run rfl 129 (.tmp 6) rfl _ _ rfl hld6 ?_
                go_ret
                refine Tells.no (fun h => ?_) (hX7.trans hXy)
                have h2 := (HNX.out h).2
                refine h2 (mem_rowsAt.1 ?_)
                have : objName o = p := by unfold objName; rw [← HPV.out, ← HFS.out]
                rw [this]
                exact HMM.out
              · have e2 : decide ([p.1, p.2] = [o.ctx, o.var]) = false := by simp [hpv]
                rw [e2] at heq
                clear hp1 e2
                have HKN : Hid (objName o ∉ (rowsAt o.ctx (l.take j)).take (k + 1)) := Lib.hid (by
                  rw [HTN.out]
                  intro hm
                  rcases List.mem_append.1 hm with hm | hm
                  · exact HK.out hm
                  · simp only [List.mem_singleton] at hm
                    refine hpv ?_
                    rw [← hm]
                    rfl)
                clear hpv
                go_wp2_with first | refine wpList_load_run rfl 129 (.tmp 8) rfl _ _ rfl hld8 ?_ | refine wpList_load_run rfl 129 (.tmp 6) rfl _ _ rfl hld6 ?_
                go_roundw
                case rel => exact ⟨k + 1, by omega, by first | (with_reducible rfl) | go_num, HKN, hXy⟩
                case measure => simp [intOf]; omega
            · have hik : ¬ (k : Int) < (nv : Int) := by omega
              have HNI : Hid (objName o ∉ (l.take j).map objName) := Lib.hid (fun hm => by
                have h1 := mem_rowsAt.2 hm
                have h2 := HK.out
                rw [List.take_of_length_le (by have := HNV.out; omega)] at h2
                exact h2 h1)
              have hMz := hM7.ext hXz
              have hrz := hrow'.ext hXz
              have hzG5 := hXz.heap hG5
              have hzG6 := hXz.heap hG6
              have hXw := hX7.trans hXz
              clear hM7 hrow' hG5 hG6 hX7 hXz HK
              have HVO : Hid ((V o.ctx).ownBlock = (Value.slice AV nv cV).ownBlock) := Lib.hid (by rw [HV.out])
              go_upto_region 16 with fail
              obtain ⟨wI, rfl⟩ : ∃ W : World, W = wz := ⟨_, rfl⟩
              refine wp_region_Z #[true, true, true, true, true, true, true, true, true, true, false] (Value.slice AV nv cV).ownBlock 10 1 (by kernel_rfl) rfl ?_
              refine wpZ_v 0 (.map (some b)) rfl rfl (by kernel_rfl) (by kernel_rfl) (by kernel_rfl) (fun _ _ _ _ h => h) (by kernel_rfl) rfl (by rfl) (fun W' hW => by
                skip
                go_simp) ?_
              simp only [List.setIfInBounds_toArray, List.set_cons_zero, List.set_cons_succ]
              refine wpZ_v 1 (.pointer (some ⟨g5, 0, none⟩)) rfl rfl (by kernel_rfl) (by kernel_rfl) (by kernel_rfl) (fun _ _ _ _ h => h) (by kernel_rfl) rfl (by rfl) (fun W' hW => by
                skip
                go_simp) ?_
              simp only [List.setIfInBounds_toArray, List.set_cons_zero, List.set_cons_succ]
              refine wpZ_v 2 (.int .i64 o.ctx) rfl rfl (by kernel_rfl) (by kernel_rfl) (by kernel_rfl) (fun _ _ _ _ h => h) (by kernel_rfl) rfl (by rfl) (fun W' hW => by
                have hgw := gtrans (((Ext.refl wI).drew).grownBy _) hW
                have z := blk_at (blk_grown hzG5 hgw (hrz.ne_blk hzG5 (by decide)).symm) 0 _ rfl
                go_simp) ?_
              simp only [List.setIfInBounds_toArray, List.set_cons_zero, List.set_cons_succ]
              refine wpZ_v 3 (.map (some b)) rfl rfl (by kernel_rfl) (by kernel_rfl) (by kernel_rfl) (fun _ _ _ _ h => h) (by kernel_rfl) rfl (by rfl) (fun W' hW => by
                skip
                go_simp) ?_
              simp only [List.setIfInBounds_toArray, List.set_cons_zero, List.set_cons_succ]
              refine wpZ_v 4 (.pointer (some ⟨g5, 0, none⟩)) rfl rfl (by kernel_rfl) (by kernel_rfl) (by kernel_rfl) (fun _ _ _ _ h => h) (by kernel_rfl) rfl (by rfl) (fun W' hW => by
                skip
                go_simp) ?_
              simp only [List.setIfInBounds_toArray, List.set_cons_zero, List.set_cons_succ]
              refine wpZ_v 5 (.int .i64 o.ctx) rfl rfl (by kernel_rfl) (by kernel_rfl) (by kernel_rfl) (fun _ _ _ _ h => h) (by kernel_rfl) rfl (by rfl) (fun W' hW => by
                have hgw := gtrans (((Ext.refl wI).drew).grownBy _) hW
                have z := blk_at (blk_grown hzG5 hgw (hrz.ne_blk hzG5 (by decide)).symm) 0 _ rfl
                go_simp) ?_
              simp only [List.setIfInBounds_toArray, List.set_cons_zero, List.set_cons_succ]
              refine wpZ_v 6 (.slice AV nv cV) rfl rfl (by kernel_rfl) (by kernel_rfl) (by kernel_rfl) (fun _ _ _ _ h => h) (by kernel_rfl) rfl (by rfl) (fun W' hW => by
                have hgw := gtrans (((Ext.refl wI).drew).grownBy _) hW
                have z := hMz.look (c := o.ctx) (by omega) (by rw [HVO.out]; exact hgw)
                rw [HV.out] at z
                go_simp) ?_
              simp only [List.setIfInBounds_toArray, List.set_cons_zero, List.set_cons_succ]
              refine wpZ_v 7 (.agg #[.int .i64 o.ctx, .int .i64 o.var]) rfl rfl (by kernel_rfl) (by kernel_rfl) (by kernel_rfl) (fun _ _ _ _ h => h) (by kernel_rfl) rfl (by rfl) (fun W' hW => by
                have hgw := gtrans (((Ext.refl wI).drew).grownBy _) hW
                obtain ⟨z0, z1⟩ := blk2 (blk_grown hzG6 hgw hne6.symm)
                go_simp) ?_
              simp only [List.setIfInBounds_toArray, List.set_cons_zero, List.set_cons_succ]
              refine wpZ_m 8 rfl rfl (by kernel_rfl) rfl (by rfl) fun W2 hW2 => ?_
              have hX1 := ((Ext.refl wI).drew).trans hW2
              have hA := (Ext.refl W2).alloc (.cells #[.int .i64 o.ctx, .int .i64 o.var] 129)
              refine ⟨.slice (some ⟨W2.heap.size, 0, none⟩) 1 1, W2.alloc (.cells #[.int .i64 o.ctx, .int .i64 o.var] 129), by go_simp, hA.grownBy _, ?_⟩
              simp only [List.setIfInBounds_toArray, List.set_cons_zero, List.set_cons_succ]
              have hin : InR pairCells (W2.alloc (.cells #[.int .i64 o.ctx, .int .i64 o.var] 129)) (.slice (some ⟨W2.heap.size, 0, none⟩) 1 1) [objName o] := (OwnR_one (f := pairCells) W2 (objName o) rfl 129).inR
              have hX3 := hX1.trans hA
              generalize W2.alloc (.cells #[.int .i64 o.ctx, .int .i64 o.var] 129) = W3 at *
              generalize W2.heap.size = gn at *
              refine wpZ_appendR elem_ar 9 (.tmp 76) (.tmp 78) b (.slice AV nv cV) (rowsAt o.ctx (l.take j)) _ [objName o] rfl rfl (by kernel_rfl) rfl (by rfl) rfl rfl rfl (hrz.ext hX3) hin (fun _ _ => rfl) (fun b hb u hu => by simp only [List.mem_singleton] at hb; subst hb; simp only [pairCells, List.mem_cons, List.not_mem_nil, or_false] at hu; rcases hu with rfl | rfl <;> rfl) (by have := HNV.out; simp only [List.length_cons, List.length_nil]; omega) (by omega) (by have := hMz.blk; have := hX3.size; omega) fun v4 W4 W5 hW4 ho4 hg4 => ?_
              simp only [List.setIfInBounds_toArray, List.set_cons_zero, List.set_cons_succ]
              have hX4 := hX3.trans hW4
              refine wpZ_end rfl fun W6 hW6 => tail_seq 10 rfl (by kernel_rfl) ?_
              simp only [List.drop_succ_cons, List.drop_zero]
              have hg6' : Grew wI W6 (V o.ctx) v4 := by
                have h1 : Grew wI W5 (.slice AV nv cV) v4 := (Ext.grew hX4 _).trans hg4
                have h2 := h1.trans (Ext.grew hW6 v4)
                rw [← HV.out] at h2
                exact h2
              obtain ⟨W7, hrun, hM7, hg7⟩ := hMz.put (c := o.ctx) (by omega) (by omega) (ho4.ext hW6) hg6'
              have hXn : Ext w W7 := (hXw.grown hg6'.grown (fun k e => Nat.le_trans hbw ((hMz.row o.ctx).ge k e))).grown hg7 (fun k e => by cases e; exact hbw)
              have HM7 : MS b b (j + 1) W7 (fun x => if x = o.ctx then v4 else V x) (fun c => rowsAt c (l.take (j + 1))) := by
                have e : (fun c => rowsAt c (l.take (j + 1))) = (fun x => if x = o.ctx then rowsAt o.ctx (l.take j) ++ [objName o] else rowsAt x (l.take j)) := by
                  funext c
                  rw [HTK.out, rowsAt_snoc]
                  by_cases hc : c = o.ctx
                  · subst hc; simp
                  · rw [if_neg hc, if_neg (fun e => hc e.symm)]
                rw [e]
                exact hM7
              have HOKN : Hid (okObjs (l.take (j + 1))) := Lib.hid (by
                rw [HTK.out]
                exact okObjs_snoc.2 ⟨HOK.out, by unfold okObj; omega, HNI.out⟩)
              clear hM7 hg7 hg6' ho4 hg4 hX4 hW6 hW4 hin hX3 hX1 hA hW2 hMz hrz hzG5 hzG6 hXw
              refine wpList_mapUpdate_run (w' := W7) rfl (.tmp 70) (.tmp 72) (.tmp 79) 128 rfl _ _ _ rfl rfl rfl hrun ?_
              refine NoPanic.normal ?_
              go_wp2_with fail
              go_roundw
              case rel => exact ⟨j + 1, _, by omega, by first | (with_reducible rfl) | go_num, HOKN, HM7, hXn⟩
              case measure => simp [intOf]; omega
    · have hij : ¬ (j : Int) < (l.length : Int) := by omega
      have HT : Hid (okObjs l) := Lib.hid (by have := HOK.out; rw [List.take_of_length_le (by omega)] at this; exact this)
      go_wp2_with fail
      go_ret
      exact Tells.yes HT.out hX
end Go.Proofs.Ytokmbdeafjmcjaa
