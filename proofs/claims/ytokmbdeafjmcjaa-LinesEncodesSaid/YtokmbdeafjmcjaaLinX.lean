/- The program of a table, as the specification writes it: the walk of ref.program. -/
import Derived.Test.YtokmbdeafjmcjaaLinVa
namespace Go.Proofs.Ytokmbdeafjmcjaa
open Go.RowKit
set_option linter.unusedVariables false

def ProgPost (l : List UInt8) (w : World) (en : Ending) (w' : World) : Prop := ∃ y, en = .returned y ∧ OwnB w.heap.size w' y l ∧ Ext w w'
set_option maxHeartbeats 40000000 in
set_option maxRecDepth 100000 in
theorem program_any (t : LTab) (y : Value) (w : World) (hy : InR lrowCells w y t.rows) (hlo : 0 ≤ t.lo ∧ t.lo ≤ t.hi ∧ t.hi ≤ 1048576) (hoR : okRows t.lo t.hi t.rows) (hn : t.rows.length ≤ 8000) :
    Calls Try.prog 60 #[.agg #[.int .i64 t.lo, .int .i64 t.hi, y]] w (ProgPost (encRows (row0 t.lo) t.rows ++ [0]) w) := by
  obtain ⟨A2, c2, rfl, _, _⟩ := id hy
  have HRS0 : Hid (RowSt t.hi (row0 t.lo) t.lo t.rows) := Lib.hid ⟨small0 (by omega), by simp [row0], hoR⟩
  clear hoR
  go_enter Try.func60, Try.ntmps60
  go_upto_region 1 with fail
  obtain ⟨W1, hW1, hE1, hB1⟩ : ∃ W, W = w.alloc (.cells #[.int .i64 t.lo, .int .i64 t.hi, .slice A2 t.rows.length c2] 46) ∧ Ext w W ∧ W.heap[w.heap.size]? = some (.cells #[.int .i64 t.lo, .int .i64 t.hi, .slice A2 t.rows.length c2] 46 (0, 0)) := ⟨_, rfl, (Ext.refl w).alloc _, heap_alloc_new w _⟩
  obtain ⟨g1, hg1⟩ : ∃ g, g = w.heap.size := ⟨_, rfl⟩
  rw [← hg1] at hB1 ⊢
  rw [← hW1]
  clear hW1 hg1
  obtain ⟨q0, q1, q2⟩ := blkT hB1
  obtain ⟨hst, hG4, hXG⟩ := box_new (P := Try.prog) W1 53 #[.int .i64 0, .int .i64 0, .int .i64 0, .bool false] #[.int .i64 t.lo, .int .i64 0, .int .i64 (-1), .bool false] rw_size rfl (by simp [Value.oneCell'])
  go_upto_region 3 with first | refine wpList_store_run rfl 53 (.tmp 4) (.tmp 11) rfl _ _ _ rfl rfl hst ?_
  obtain ⟨g4, hg4⟩ : ∃ g, g = W1.heap.size := ⟨_, rfl⟩
  rw [← hg4] at hG4 hXG ⊢
  have hs4 : w.heap.size ≤ g4 := by rw [hg4]; exact hE1.size
  generalize (W1.alloc (.cells #[.int .i64 0, .int .i64 0, .int .i64 0, .bool false] 53)).setRow g4 #[.int .i64 t.lo, .int .i64 0, .int .i64 (-1), .bool false] = W2 at *
  have hG1 := hXG.heap hB1
  have hX2 := hE1.trans hXG
  clear hst hXG hg4 hB1 hE1 q0 q1 q2
  obtain ⟨q0, q1, q2⟩ := blkT hG1
  dsimp only [Act.put]
  go_wp2_with fail
  go_loopw [15, 3] (fun i v wr => ∃ (k : Nat) (s : LRow) (nx : Int) (cu : List UInt8), k ≤ t.rows.length ∧ i = .int .i64 (k : Int) ∧ Hid (s = lastR (row0 t.lo) (t.rows.take k)) ∧ Hid (RowSt t.hi s nx (t.rows.drop k)) ∧ Hid (cu = encRows (row0 t.lo) (t.rows.take k)) ∧ cu.length ≤ 40 * k ∧ OwnV bv 5 w.heap.size wr v cu ∧ wr.heap[g4]? = some (.cells #[.int .i64 s.addr, .int .i64 s.ctx, .int .i64 s.stmt, .bool s.mark] 53 (0, 0)) ∧ wr.heap[g1]? = some (.cells #[.int .i64 t.lo, .int .i64 t.hi, .slice A2 t.rows.length c2] 46 (0, 0)) ∧ Ext w wr) (fun i _ _ => t.rows.length - (intOf i).toNat)
  case atStart => exact ⟨0, row0 t.lo, t.lo, [], by omega, rfl, Lib.hid rfl, HRS0, Lib.hid rfl, by simp, OwnV.nil _, hG4, hG1, hX2⟩
  case round =>
    clear hG4 hG1 hX2 HRS0 q0 q1 q2
    obtain ⟨k, s, nx, cu, hk, rfl, HLA, HRS, HCU, hcu, hO, hG4, hG1, hX⟩ := hrel
    obtain ⟨wz, rfl⟩ : ∃ W : World, W = wr := ⟨_, rfl⟩
    by_cases hlk : k < t.rows.length
    · have hki : (k : Int) < (t.rows.length : Int) := by omega
      obtain ⟨b8, o8, hAe, hra⟩ := (hy.ext hX).at_ (k := 4) (fun _ _ => rfl) (by omega) hlk
      subst hAe
      have HDR := Lib.hid (List.drop_eq_getElem_cons hlk)
      have HTR := Lib.hid (List.take_succ_eq_append_getElem hlk)
      generalize t.rows[k] = r at *
      have hnx := HRS.out
      rw [HDR.out] at hnx
      obtain ⟨hsr, hsa, hnx2⟩ := hnx.next hlo.2.2
      have hss := HRS.out.1
      have HRS2 := Lib.hid hnx2
      have HSR := Lib.hid hsr
      have HSS := Lib.hid hss
      obtain ⟨a1, a2, a3⟩ := hsr
      obtain ⟨b1, b2', b3⟩ := hss
      clear hnx hnx2 HRS
      have hld := lrow_load hra
      obtain ⟨hst, hG, hXG⟩ := box_new (P := Try.prog) wz 53 #[.int .i64 0, .int .i64 0, .int .i64 0, .bool false] #[.int .i64 r.addr, .int .i64 r.ctx, .int .i64 r.stmt, .bool r.mark] rw_size rfl (by simp [Value.oneCell'])
      go_upto_region 6 with first | refine wpList_load_run rfl 53 (.tmp 17) rfl _ _ rfl hld ?_ | refine wpList_store_run rfl 53 (.tmp 6) (.tmp 18) rfl _ _ _ rfl rfl hst ?_
      obtain ⟨g6, hg6⟩ : ∃ g, g = wz.heap.size := ⟨_, rfl⟩
      rw [← hg6] at hG hXG ⊢
      have hg46 : g4 ≠ g6 := by have := heap_lt hG4; omega
      generalize (wz.alloc (.cells #[.int .i64 0, .int .i64 0, .int .i64 0, .bool false] 53)).setRow g6 #[.int .i64 r.addr, .int .i64 r.ctx, .int .i64 r.stmt, .bool r.mark] = wg at *
      dsimp only [Act.put]
      have hLB : LB w w g1 g4 g6 #[.int .i64 t.lo, .int .i64 t.hi, .slice (some ⟨b8, o8, none⟩) t.rows.length c2] #[.int .i64 s.addr, .int .i64 s.ctx, .int .i64 s.stmt, .bool s.mark] #[.int .i64 r.addr, .int .i64 r.ctx, .int .i64 r.stmt, .bool r.mark] u3 cu wg := ⟨hXG.heap hG4, hXG.heap hG1, hG, hO.ext hXG, hX.trans hXG, hX.trans hXG⟩
      clear hst hld hra hXG hX hg6 hG hG4 hG1 hO
      have HCUN : Hid (cu ++ encRow s r = encRows (row0 t.lo) (t.rows.take (k + 1))) := Lib.hid (by rw [HTR.out, encRows_snoc, ← HLA.out, ← HCU.out])
      have HLAN : Hid (r = lastR (row0 t.lo) (t.rows.take (k + 1))) := Lib.hid (by rw [HTR.out, lastR_snoc])
      have hENL := encRow_len HSS.out HSR.out
      have hcuN : (cu ++ encRow s r).length ≤ 40 * (k + 1) := by rw [List.length_append]; omega
      have hcx := ctxB_len (s := s) HSR.out
      have hcb : cu.length ≤ 320000 := by omega
      clear HCU HLA HTR HDR
      obtain ⟨r0, r1, r2, r3⟩ := blkR hLB.row
      obtain ⟨s0, s1, s2, s3⟩ := blkR hLB.sta
      go_upto_if 23 with fail
      go_cut [3] (fun v wx => LB w w g1 g4 g6 #[.int .i64 t.lo, .int .i64 t.hi, .slice (some ⟨b8, o8, none⟩) t.rows.length c2] #[.int .i64 s.addr, .int .i64 s.ctx, .int .i64 s.stmt, .bool s.mark] #[.int .i64 r.addr, .int .i64 r.ctx, .int .i64 r.stmt, .bool r.mark] v (cu ++ ctxB s r) wx)
      case first =>
        by_cases hc : r.ctx = s.ctx
        · have d : (r.ctx != s.ctx) = false := by simp [hc]
          have HCX : Hid (ctxB s r = []) := Lib.hid (by unfold ctxB; rw [if_pos hc])
          rw [d]
          clear hc
          go_wp2_with fail
          go_meet
          rw [HCX.out, List.append_nil]
          exact hLB
        · have d : (r.ctx != s.ctx) = true := by simp [hc]
          have HCX : Hid (ctxB s r = [2] ++ uintB r.ctx) := Lib.hid (by unfold ctxB; rw [if_neg hc]; rfl)
          rw [d]
          clear hc
          go_upto_region 7 with fail
          refine wp_region_Z #[true, true, true, true, true, true, false] u3.ownBlock 6 1 (by kernel_rfl) rfl ?_
          refine wpZ_v 0 (u3) rfl rfl (by kernel_rfl) (by kernel_rfl) (by kernel_rfl) (fun _ _ _ _ h => h) (by kernel_rfl) rfl (by rfl) (fun W' hW => by
            skip
            go_simp) ?_
          simp only [List.setIfInBounds_toArray, List.set_cons_zero, List.set_cons_succ]
          refine wpZ_v 3 (.pointer (some ⟨g6, 1, none⟩)) rfl rfl (by kernel_rfl) (by kernel_rfl) (by kernel_rfl) (fun _ _ _ _ h => h) (by kernel_rfl) rfl (by rfl) (fun W' hW => by
            skip
            go_simp) ?_
          simp only [List.setIfInBounds_toArray, List.set_cons_zero, List.set_cons_succ]
          refine wpZ_v 4 (.int .i64 r.ctx) rfl rfl (by kernel_rfl) (by kernel_rfl) (by kernel_rfl) (fun _ _ _ _ h => h) (by kernel_rfl) rfl (by rfl) (fun W' hW => by
            obtain ⟨q0, q1, q2, q3⟩ := blkR (blk_grown hLB.row (gtrans (((Ext.refl wg).drew).grownBy _) hW) (hLB.own.ne_blk hLB.row (by decide)).symm)
            go_simp) ?_
          simp only [List.setIfInBounds_toArray, List.set_cons_zero, List.set_cons_succ]
          refine wpZ_m 1 rfl rfl (by kernel_rfl) rfl (by rfl) fun W1 hW1 => ?_
          have hL1 := hLB.aside (((Ext.refl wg).drew).trans hW1)
          have hA := (Ext.refl W1).alloc (.cells #[.int .u8 2] 5)
          refine ⟨.slice (some ⟨W1.heap.size, 0, none⟩) 1 1, W1.alloc (.cells #[.int .u8 2] 5), by go_simp, hA.grownBy _, ?_⟩
          simp only [List.setIfInBounds_toArray, List.set_cons_zero, List.set_cons_succ]
          have hin : InB (W1.alloc (.cells #[.int .u8 2] 5)) (.slice (some ⟨W1.heap.size, 0, none⟩) 1 1) [2] := ⟨_, 1, rfl, Nat.le_refl _, Rd_blk (heap_alloc_new _ _)⟩
          have hL2 := hL1.aside hA
          clear hLB hL1 hW1 hA r0 r1 r2 r3 s0 s1 s2 s3
          generalize W1.alloc (.cells #[.int .u8 2] 5) = W2 at *
          generalize W1.heap.size = gn at *
          refine wpZ_appendV elem_u8 (fun _ => rfl) 2 (.tmp 24) (.tmp 25) w.heap.size _ cu _ [2] rfl rfl (by kernel_rfl) rfl rfl rfl rfl rfl hL2.own hin (by simp only [List.length_cons, List.length_nil]; omega) (by omega) hL2.ext1.size fun v9 W3 W4 hW3 ho9 hg9 => ?_
          simp only [List.setIfInBounds_toArray, List.set_cons_zero, List.set_cons_succ]
          have hL4 := (hL2.aside hW3).put (Ext.refl w) ho9 hg9
          clear hL2 hin hW3 ho9 hg9
          refine wpZ_c 5 32 #[v9, .int .i64 r.ctx] rfl rfl (by kernel_rfl) rfl (by rfl) (fun W => by go_simp) ?_
          intro W5 hW5
          have hL5 := hL4.aside hW5
          refine (refAppendUint_any v9 _ r.ctx W5 hL5.own.inV (by rw [List.length_append]; simp only [List.length_cons, List.length_nil]; omega) (by omega)).mono ?_
          rintro en W6 ⟨v6, rfl, ho6, hx6⟩
          refine ⟨_, rfl, hx6.grownBy _, ?_⟩
          simp only [List.setIfInBounds_toArray, List.set_cons_zero, List.set_cons_succ]
          refine wpZ_end rfl fun W7 hW7 => tail_seq 6 rfl (by kernel_rfl) ?_
          refine wpList_run rfl _ (by go_simp; exact ⟨rfl, rfl⟩) ?_
          refine NoPanic.normal ?_
          have hLB := (hL5.call ho6 hx6).aside hW7
          rw [List.append_assoc, ← HCX.out] at hLB
          clear hL4 hL5 ho6 hx6 hW5 hW7
          go_wp2_with fail
          go_meet
          exact hLB
      clear hLB r0 r1 r2 r3 s0 s1 s2 s3
      have hLB := hcut
      clear hcut
      obtain ⟨wk, rfl⟩ : ∃ W : World, W = wc := ⟨_, rfl⟩
      obtain ⟨up, hup⟩ : ∃ up, up = r.addr - s.addr := ⟨_, rfl⟩
      obtain ⟨more, hmo⟩ : ∃ m, m = r.stmt - s.stmt := ⟨_, rfl⟩
      have w1' : IntKind.i64.wrap (r.addr - s.addr) = up := by rw [IntKind.wrap_i64]; omega
      have w2' : IntKind.i64.wrap (r.stmt - s.stmt) = more := by rw [IntKind.wrap_i64]; omega
      have hupr : 0 ≤ up ∧ up ≤ 1048576 := by omega
      have hmor : -10000 ≤ more ∧ more ≤ 10000 := by omega
      have HEN : Hid (encRow s r = ctxB s r ++ (if shortR up more r.mark then [oneB up more] else upB up ++ (moreB more ++ [if r.mark then 5 else 4]))) := Lib.hid (by rw [hup, hmo]; rfl)
      obtain ⟨cu1, hcu1⟩ : ∃ c, c = cu ++ ctxB s r := ⟨_, rfl⟩
      have hcl1 : cu1.length ≤ 400000 := by rw [hcu1, List.length_append]; omega
      rw [← hcu1] at hLB
      have HCU1 := Lib.hid hcu1
      have hu11 := upB_len (up := up) hupr.2
      have hm11 := moreB_len (m := more) (by omega)
      have hcup : (cu1 ++ upB up).length ≤ 400100 := by rw [List.length_append]; omega
      have hcum : ((cu1 ++ upB up) ++ moreB more).length ≤ 400200 := by rw [List.length_append]; omega
      clear hup hmo hcu1 hENL hu11 hm11 hcx
      obtain ⟨r0, r1, r2, r3⟩ := blkR hLB.row
      obtain ⟨s0, s1, s2, s3⟩ := blkR hLB.sta
      go_upto_region 8 with fail
      go_quiet (fail)
      have hLB2 := hLB.aside ((Ext.refl wk).drewN nq)
      clear hLB r0 r1 r2 r3 s0 s1 s2 s3 w1' w2'
      generalize wk.drewN nq = wd at *
      have hLB := hLB2
      clear hLB2
      obtain ⟨r0, r1, r2, r3⟩ := blkR hLB.row
      go_upto_region 9 with fail
      go_cut [53] (fun s wx => ∃ d : Bool, s = .bool d ∧ (d = true ↔ shortR up more r.mark) ∧ wx = wd)
      case first =>
        by_cases hm : r.mark = true
        case neg =>
          have hm' : r.mark = false := by simpa using hm
          rw [hm'] at r3
          have HM := Lib.hid hm'
          clear hm hm'
          go_wp2_with fail
          go_meet
          exact ⟨false, rfl, ⟨fun h => (by cases h), fun h => (by have := h.1; rw [HM.out] at this; cases this)⟩, rfl⟩
        rw [hm] at r3
        have HM := Lib.hid hm
        clear hm
        by_cases h1 : up ≤ 29
        case neg =>
          have d1 : decide (up ≤ 29) = false := by simp; omega
          go_wp2_with fail
          go_meet
          exact ⟨false, rfl, ⟨fun h => (by cases h), fun h => absurd h.2.1 (by omega)⟩, rfl⟩
        have d1 : decide (up ≤ 29) = true := by simp; omega
        by_cases h2 : -2 ≤ more
        case neg =>
          have d2 : decide (-2 ≤ more) = false := by simp; omega
          go_wp2_with fail
          go_meet
          exact ⟨false, rfl, ⟨fun h => (by cases h), fun h => absurd h.2.2.1 (by omega)⟩, rfl⟩
        have d2 : decide (-2 ≤ more) = true := by simp; omega
        by_cases h3 : more ≤ 5
        case neg =>
          have d3 : decide (more ≤ 5) = false := by simp; omega
          go_wp2_with fail
          go_meet
          exact ⟨false, rfl, ⟨fun h => (by cases h), fun h => absurd h.2.2.2 (by omega)⟩, rfl⟩
        have d3 : decide (more ≤ 5) = true := by simp; omega
        go_wp2_with fail
        go_meet
        exact ⟨true, rfl, ⟨fun _ => ⟨HM.out, h1, h2, h3⟩, fun _ => rfl⟩, rfl⟩
      obtain ⟨d, rfl, hd, rfl⟩ := hcut
      obtain ⟨we, rfl⟩ : ∃ W : World, W = wc := ⟨_, rfl⟩
      cases d with
      | true =>
        have hsh := hd.1 rfl
        have HEQ : Hid (cu1 ++ [oneB up more] = cu ++ encRow s r) := Lib.hid (by rw [HEN.out, if_pos hsh, HCU1.out, List.append_assoc])
        obtain ⟨_, h1, h2, h3⟩ := hsh
        clear hd HEN r0 r1 r2 r3
        have v1 : IntKind.i64.wrap (8 * up) = up * 8 := by rw [IntKind.wrap_i64]; omega
        have v2 : IntKind.i64.wrap (16 + up * 8) = 16 + up * 8 := by rw [IntKind.wrap_i64]; omega
        have v3 : IntKind.i64.wrap (16 + up * 8 + more) = 16 + up * 8 + more := by rw [IntKind.wrap_i64]; omega
        have v4 : IntKind.i64.wrap (16 + up * 8 + more + 2) = 16 + up * 8 + more + 2 := by rw [IntKind.wrap_i64]; omega
        have v5 : IntKind.u8.wrap (16 + up * 8 + more + 2) = 16 + up * 8 + more + 2 := by rw [IntKind.wrap_u8]; omega
        have hc8 : Value.int .u8 (16 + up * 8 + more + 2) = bv (oneB up more) := by
          show _ = Value.int .u8 ((UInt8.ofNat (16 + up * 8 + more + 2).toNat).toNat : Int)
          have : ((UInt8.ofNat (16 + up * 8 + more + 2).toNat).toNat : Int) = 16 + up * 8 + more + 2 := by simp; omega
          rw [this]
        have HC8 := Lib.hid hc8
        clear hc8
        have hA := (Ext.refl we).alloc (.cells #[.int .u8 (16 + up * 8 + more + 2)] 5)
        have hin : InB ((we).alloc (.cells #[.int .u8 (16 + up * 8 + more + 2)] 5)) (.slice (some ⟨(we).heap.size, 0, none⟩) 1 1) [oneB up more] := by rw [HC8.out]; exact ⟨_, 1, rfl, Nat.le_refl _, Rd_blk (heap_alloc_new _ _)⟩
        have hLA := hLB.aside hA
        have hszA := hLA.ext1.size
        go_wp2_with (at_builtin; go_must (refine wpList_appendV elem_u8 (fun _ => rfl) rfl (.tmp 54) (.tmp 62) rfl w.heap.size _ cu1 rfl hLA.own _ [oneB up more] rfl hin (by simp only [List.length_cons, List.length_nil]; omega) (by omega) hszA (Hold.out ?_)))
        refine Hold.mk fun v9 w9 ho9 hg9 => ?_
        have hL9 := hLA.put (Ext.refl w) ho9 hg9
        clear hLA hin hszA hA ho9 hg9
        have hldr := run_loadAt_blk (P := Try.prog) w9 g6 53 53 _ (0, 0) _ hL9.row Try.underlying53 rfl rw_size
        have hstr := run_storeAt_blk (P := Try.prog) w9 g4 53 53 _ #[.int .i64 r.addr, .int .i64 r.ctx, .int .i64 r.stmt, .bool r.mark] hL9.sta rw_size rfl (by simp [Value.oneCell'])
        go_upto_region 20 with first | refine wpList_load_run rfl 53 (.tmp 6) rfl _ _ rfl hldr ?_ | refine wpList_store_run rfl 53 (.tmp 4) (.tmp 64) rfl _ _ _ rfl rfl hstr ?_
        have hLF := hL9.sync (Ext.refl w) hg46 hs4 #[.int .i64 r.addr, .int .i64 r.ctx, .int .i64 r.stmt, .bool r.mark]
        clear hldr hstr hL9
        generalize w9.setRow g4 #[.int .i64 r.addr, .int .i64 r.ctx, .int .i64 r.stmt, .bool r.mark] = wq at *
        simp only [Act.put, List.setIfInBounds_toArray, List.set_cons_zero, List.set_cons_succ]
        go_wp2_with fail
        go_roundw
        case rel => exact ⟨k + 1, r, r.addr + 1, _, by omega, by first | (with_reducible rfl) | go_num, HLAN, HRS2, HCUN, hcuN, by rw [← HEQ.out]; exact hLF.own, hLF.sta, hLF.tab, hLF.ext⟩
        case measure => simp [intOf]; omega
      | false =>
        have hns : ¬ shortR up more r.mark := fun h => by have := hd.2 h; cases this
        have HEQ : Hid (((cu1 ++ upB up) ++ moreB more) ++ [if r.mark then 5 else 4] = cu ++ encRow s r) := Lib.hid (by rw [HEN.out, if_neg hns, HCU1.out]; simp only [List.append_assoc])
        clear hns
        clear hd HEN r0 r1 r2 r3
        go_upto_if 66 with fail
        go_cut [3] (fun v wx => LB w w g1 g4 g6 #[.int .i64 t.lo, .int .i64 t.hi, .slice (some ⟨b8, o8, none⟩) t.rows.length c2] #[.int .i64 s.addr, .int .i64 s.ctx, .int .i64 s.stmt, .bool s.mark] #[.int .i64 r.addr, .int .i64 r.ctx, .int .i64 r.stmt, .bool r.mark] v (cu1 ++ upB up) wx)
        case first =>
          by_cases hc : 0 < up
          · have d : decide (0 < up) = true := by simp; omega
            have HCX : Hid (upB up = [1] ++ uintB up) := Lib.hid (by unfold upB; rw [if_pos hc]; rfl)
            rw [d]
            have hA := (Ext.refl we).alloc (.cells #[.int .u8 1] 5)
            have hin : InB ((we).alloc (.cells #[.int .u8 1] 5)) (.slice (some ⟨(we).heap.size, 0, none⟩) 1 1) [1] := ⟨_, 1, rfl, Nat.le_refl _, Rd_blk (heap_alloc_new _ _)⟩
            have hLA := hLB.aside hA
            have hszA := hLA.ext1.size
            go_wp2_with (at_builtin; go_must (refine wpList_appendV elem_u8 (fun _ => rfl) rfl (.tmp 67) (.tmp 68) rfl w.heap.size _ cu1 rfl hLA.own _ [1] rfl hin (by simp only [List.length_cons, List.length_nil]; omega) (by omega) hszA (Hold.out ?_)))
            refine Hold.mk fun v9 w9 ho9 hg9 => ?_
            have hL9 := hLA.put (Ext.refl w) ho9 hg9
            clear hLA hin hszA hA ho9 hg9
            clear hLB
            go_wp2_with fail
            refine (refAppendUint_any v9 _ up w9 hL9.own.inV (by rw [List.length_append]; simp only [List.length_cons, List.length_nil]; omega) (by omega)).mono ?_
            rintro en w11 ⟨y11, rfl, ho11, hx11⟩
            have hL11 := hL9.call ho11 hx11
            rw [List.append_assoc, ← HCX.out] at hL11
            clear hL9 ho11 hx11
            go_wp2_with fail
            go_meet
            exact hL11
          · have d : decide (0 < up) = false := by simp; omega
            have HCX : Hid (upB up = []) := Lib.hid (by unfold upB; rw [if_neg hc])
            rw [d]
            go_wp2_with fail
            go_meet
            rw [HCX.out, List.append_nil]
            exact hLB
        clear hLB
        have hLB := hcut
        clear hcut
        obtain ⟨wk, rfl⟩ : ∃ W : World, W = wc := ⟨_, rfl⟩
        obtain ⟨cc1, hcc⟩ : ∃ c, c = cu1 ++ upB up := ⟨_, rfl⟩
        rw [← hcc] at hLB HEQ hcup hcum
        clear hcc
        go_upto_if 73 with fail
        go_cut [3] (fun v wx => LB w w g1 g4 g6 #[.int .i64 t.lo, .int .i64 t.hi, .slice (some ⟨b8, o8, none⟩) t.rows.length c2] #[.int .i64 s.addr, .int .i64 s.ctx, .int .i64 s.stmt, .bool s.mark] #[.int .i64 r.addr, .int .i64 r.ctx, .int .i64 r.stmt, .bool r.mark] v (cc1 ++ moreB more) wx)
        case first =>
          by_cases hc : more = 0
          case neg =>
            have d : (more != 0) = true := by simp [hc]
            have HCX : Hid (moreB more = [3] ++ leb (zig more)) := Lib.hid (by unfold moreB; rw [if_neg hc]; rfl)
            rw [d]
            clear hc
            have hA := (Ext.refl wk).alloc (.cells #[.int .u8 3] 5)
            have hin : InB ((wk).alloc (.cells #[.int .u8 3] 5)) (.slice (some ⟨(wk).heap.size, 0, none⟩) 1 1) [3] := ⟨_, 1, rfl, Nat.le_refl _, Rd_blk (heap_alloc_new _ _)⟩
            have hLA := hLB.aside hA
            have hszA := hLA.ext1.size
            go_wp2_with (at_builtin; go_must (refine wpList_appendV elem_u8 (fun _ => rfl) rfl (.tmp 74) (.tmp 75) rfl w.heap.size _ cc1 rfl hLA.own _ [3] rfl hin (by simp only [List.length_cons, List.length_nil]; omega) (by omega) hszA (Hold.out ?_)))
            refine Hold.mk fun v9 w9 ho9 hg9 => ?_
            have hL9 := hLA.put (Ext.refl w) ho9 hg9
            clear hLA hin hszA hA ho9 hg9
            clear hLB
            go_wp2_with fail
            refine (refAppendInt_any v9 _ more w9 hL9.own.inV (by rw [List.length_append]; simp only [List.length_cons, List.length_nil]; omega) (by omega) (by omega)).mono ?_
            rintro en w11 ⟨y11, rfl, ho11, hx11⟩
            have hL11 := hL9.call ho11 hx11
            rw [List.append_assoc, ← HCX.out] at hL11
            clear hL9 ho11 hx11
            go_wp2_with fail
            go_meet
            exact hL11
          have d : (more != 0) = false := by simp [hc]
          have HCX : Hid (moreB more = []) := Lib.hid (by unfold moreB; rw [if_pos hc])
          rw [d]
          clear hc
          go_wp2_with fail
          go_meet
          rw [HCX.out, List.append_nil]
          exact hLB
        clear hLB
        have hLB := hcut
        clear hcut
        obtain ⟨wm, rfl⟩ : ∃ W : World, W = wc := ⟨_, rfl⟩
        obtain ⟨cc2, hcc⟩ : ∃ c, c = cc1 ++ moreB more := ⟨_, rfl⟩
        rw [← hcc] at hLB HEQ hcum
        clear hcc
        obtain ⟨r0, r1, r2, r3⟩ := blkR hLB.row
        by_cases hm : r.mark = true
        · rw [hm] at r3
          rw [if_pos hm] at HEQ
          clear hm
          have hA := (Ext.refl wm).alloc (.cells #[.int .u8 5] 5)
          have hin : InB ((wm).alloc (.cells #[.int .u8 5] 5)) (.slice (some ⟨(wm).heap.size, 0, none⟩) 1 1) [5] := ⟨_, 1, rfl, Nat.le_refl _, Rd_blk (heap_alloc_new _ _)⟩
          have hLA := hLB.aside hA
          have hszA := hLA.ext1.size
          go_wp2_with (at_builtin; go_must (refine wpList_appendV elem_u8 (fun _ => rfl) rfl (.tmp 81) (.tmp 82) rfl w.heap.size _ cc2 rfl hLA.own _ [5] rfl hin (by simp only [List.length_cons, List.length_nil]; omega) (by omega) hszA (Hold.out ?_)))
          refine Hold.mk fun v9 w9 ho9 hg9 => ?_
          have hL9 := hLA.put (Ext.refl w) ho9 hg9
          clear hLA hin hszA hA ho9 hg9
          clear hLB r0 r1 r2 r3
          have hldr := run_loadAt_blk (P := Try.prog) w9 g6 53 53 _ (0, 0) _ hL9.row Try.underlying53 rfl rw_size
          have hstr := run_storeAt_blk (P := Try.prog) w9 g4 53 53 _ #[.int .i64 r.addr, .int .i64 r.ctx, .int .i64 r.stmt, .bool r.mark] hL9.sta rw_size rfl (by simp [Value.oneCell'])
          go_upto_region 20 with first | refine wpList_load_run rfl 53 (.tmp 6) rfl _ _ rfl hldr ?_ | refine wpList_store_run rfl 53 (.tmp 4) (.tmp 87) rfl _ _ _ rfl rfl hstr ?_
          have hLF := hL9.sync (Ext.refl w) hg46 hs4 #[.int .i64 r.addr, .int .i64 r.ctx, .int .i64 r.stmt, .bool r.mark]
          clear hldr hstr hL9
          generalize w9.setRow g4 #[.int .i64 r.addr, .int .i64 r.ctx, .int .i64 r.stmt, .bool r.mark] = wq at *
          simp only [Act.put, List.setIfInBounds_toArray, List.set_cons_zero, List.set_cons_succ]
          go_wp2_with fail
          go_roundw
          case rel => exact ⟨k + 1, r, r.addr + 1, _, by omega, by first | (with_reducible rfl) | go_num, HLAN, HRS2, HCUN, hcuN, by rw [← HEQ.out]; exact hLF.own, hLF.sta, hLF.tab, hLF.ext⟩
          case measure => simp [intOf]; omega
        · have hm' : r.mark = false := by simpa using hm
          rw [hm'] at r3
          rw [if_neg hm] at HEQ
          clear hm hm'
          have hA := (Ext.refl wm).alloc (.cells #[.int .u8 4] 5)
          have hin : InB ((wm).alloc (.cells #[.int .u8 4] 5)) (.slice (some ⟨(wm).heap.size, 0, none⟩) 1 1) [4] := ⟨_, 1, rfl, Nat.le_refl _, Rd_blk (heap_alloc_new _ _)⟩
          have hLA := hLB.aside hA
          have hszA := hLA.ext1.size
          go_wp2_with (at_builtin; go_must (refine wpList_appendV elem_u8 (fun _ => rfl) rfl (.tmp 84) (.tmp 85) rfl w.heap.size _ cc2 rfl hLA.own _ [4] rfl hin (by simp only [List.length_cons, List.length_nil]; omega) (by omega) hszA (Hold.out ?_)))
          refine Hold.mk fun v9 w9 ho9 hg9 => ?_
          have hL9 := hLA.put (Ext.refl w) ho9 hg9
          clear hLA hin hszA hA ho9 hg9
          clear hLB r0 r1 r2 r3
          have hldr := run_loadAt_blk (P := Try.prog) w9 g6 53 53 _ (0, 0) _ hL9.row Try.underlying53 rfl rw_size
          have hstr := run_storeAt_blk (P := Try.prog) w9 g4 53 53 _ #[.int .i64 r.addr, .int .i64 r.ctx, .int .i64 r.stmt, .bool r.mark] hL9.sta rw_size rfl (by simp [Value.oneCell'])
          go_upto_region 20 with first | refine wpList_load_run rfl 53 (.tmp 6) rfl _ _ rfl hldr ?_ | refine wpList_store_run rfl 53 (.tmp 4) (.tmp 87) rfl _ _ _ rfl rfl hstr ?_
          have hLF := hL9.sync (Ext.refl w) hg46 hs4 #[.int .i64 r.addr, .int .i64 r.ctx, .int .i64 r.stmt, .bool r.mark]
          clear hldr hstr hL9
          generalize w9.setRow g4 #[.int .i64 r.addr, .int .i64 r.ctx, .int .i64 r.stmt, .bool r.mark] = wq at *
          simp only [Act.put, List.setIfInBounds_toArray, List.set_cons_zero, List.set_cons_succ]
          go_wp2_with fail
          go_roundw
          case rel => exact ⟨k + 1, r, r.addr + 1, _, by omega, by first | (with_reducible rfl) | go_num, HLAN, HRS2, HCUN, hcuN, by rw [← HEQ.out]; exact hLF.own, hLF.sta, hLF.tab, hLF.ext⟩
          case measure => simp [intOf]; omega
    · have hki : ¬ (k : Int) < (t.rows.length : Int) := by omega
      have hkk : k = t.rows.length := by omega
      have hA := (Ext.refl wz).alloc (.cells #[.int .u8 0] 5)
      have hin : InB (wz.alloc (.cells #[.int .u8 0] 5)) (.slice (some ⟨wz.heap.size, 0, none⟩) 1 1) [0] := ⟨_, 1, rfl, Nat.le_refl _, Rd_blk (heap_alloc_new _ _)⟩
      have hszA := (hX.trans hA).size
      have HE : Hid (cu = encRows (row0 t.lo) t.rows) := Lib.hid (by rw [HCU.out, hkk, List.take_of_length_le (Nat.le_refl _)])
      have hcb : cu.length ≤ 320000 := by omega
      go_wp2_with (at_builtin; go_must (refine wpList_appendV elem_u8 (fun _ => rfl) rfl (.tmp 89) (.tmp 90) rfl w.heap.size _ cu rfl (hO.ext hA) _ [0] rfl hin (by simp only [List.length_cons, List.length_nil]; omega) (by omega) hszA (Hold.out ?_)))
      refine Hold.mk fun v9 w9 ho9 hg9 => ?_
      have hX9 := hg9.ext (hX.trans hA) hO.ge
      rw [HE.out] at ho9
      clear hg9 hin hszA hA
      go_wp2_with fail
      refine bodyPost_ret (by simp [results, Try.results60, go_sem]; rfl) rfl ?_
      exact ⟨_, rfl, ho9, hX9⟩
end Go.Proofs.Ytokmbdeafjmcjaa
