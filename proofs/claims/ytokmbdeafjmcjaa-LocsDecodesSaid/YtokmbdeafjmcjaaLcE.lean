/- What may be encoded: the walk of rightRanges. -/
import Derived.Test.YtokmbdeafjmcjaaLcC
namespace Go.Proofs.Ytokmbdeafjmcjaa
open Go.RowKit
set_option linter.unusedVariables false
set_option linter.unusedSimpArgs false

theorem exec_load19 {P : Program} {W : World} {e : Operand → Value} {op : Oper} (ty : TypeId) (x : Operand) (ho : op.op = .load ty x) (v u : Value) (hx : e x = v) (hr : (Instr.loadAt ty v).run P W = .ok u W) : (execOp e op).run P W = .ok (.value u) W := by
  unfold execOp
  simp only [ho, hx, Sem.run_bind, hr, Result.andThen_ok, Sem.run_pure]
def PreOk (lo hi : Int) (l : List Rng) (j : Nat) : Prop := ∀ i (h : i < l.length), i < j → okAt lo hi (l.take i) l[i]
theorem PreOk.succ {lo hi : Int} {l : List Rng} {j : Nat} (h : PreOk lo hi l j) (hj : j < l.length) (ho : okAt lo hi (l.take j) l[j]) : PreOk lo hi l (j + 1) := fun i hi hij => by
  by_cases e : i = j
  · subst e; exact ho
  · exact h i hi (by omega)
def codeR (r : Rng) : Int := r.lo * 24576 + r.ctx * 96 + r.var * 4 + r.piece
theorem okRngs_len {lo hi : Int} {l : List Rng} (h : okRngs lo hi l) (h0 : 0 ≤ lo) (h1 : hi ≤ 1048576) : l.length ≤ 25769803776 := by
  have key : ∀ i (hi' : i < l.length), (i : Int) ≤ codeR l[i] := by
    intro i
    induction i with
    | zero =>
      intro hi'
      have := (h 0 hi').1
      unfold okNum at this
      unfold codeR
      omega
    | succ i ih =>
      intro hi'
      have h2 := ih (by omega)
      have h3 := (h (i + 1) hi').2.2.1 l[i] (by rw [List.getLast?_eq_getElem?, List.length_take, Nat.min_eq_left (by omega), Nat.add_sub_cancel, List.getElem?_take, if_pos (by omega), List.getElem?_eq_getElem])
      have h4 := (h (i + 1) hi').1
      have h5 := (h i (by omega)).1
      unfold okNum at h4 h5
      unfold ltK at h3
      unfold codeR at *
      omega
  by_cases hl : l.length = 0
  · omega
  · have h2 := key (l.length - 1) (by omega)
    have h3 := (h (l.length - 1) (by omega)).1
    unfold okNum at h3
    unfold codeR at h2
    omega
set_option maxHeartbeats 40000000 in
set_option maxRecDepth 100000 in
theorem rightRanges_any (t : PTab) (y : Value) (w : World) (hy : RngsIn w y t.ranges) (hI : t.I) :
    Calls Try.prog 69 #[.agg #[.int .i64 t.lo, .int .i64 t.hi, y]] w (Tells (okRngs t.lo t.hi t.ranges) w) := by
  obtain ⟨A2, c2, rfl⟩ := hy.form
  obtain ⟨n2, hn2⟩ : ∃ n, n = t.ranges.length := ⟨_, rfl⟩
  have hlen2 : n2 ≤ 9223372036854775807 := by rw [hn2]; exact hI.len
  have HY := Lib.hid hy
  have HPI := Lib.hid hI.places
  rw [← hn2] at HY ⊢
  have HN2 := Lib.hid hn2
  clear hy hn2
  go_enter Try.func69, Try.ntmps69
  go_upto_region 1 with fail
  obtain ⟨W, hW, hE, hB⟩ : ∃ W, W = w.alloc (.cells #[.int .i64 t.lo, .int .i64 t.hi, .slice A2 n2 c2] 66) ∧ Ext w W ∧ W.heap[w.heap.size]? = some (.cells #[.int .i64 t.lo, .int .i64 t.hi, .slice A2 n2 c2] 66 (0, 0)) := ⟨_, rfl, (Ext.refl w).alloc _, heap_alloc_new w _⟩
  rw [← hW]
  obtain ⟨g1, hg1⟩ : ∃ g, g = w.heap.size := ⟨_, rfl⟩
  rw [← hg1] at hB ⊢
  clear hW
  have hmk : (Instr.makeMap 151 none).run Try.prog W = .ok (.map (some W.heap.size)) (W.alloc (.map #[] 0)) := rfl
  go_upto_region 2 with fail
  clear hmk
  obtain ⟨b, hb⟩ : ∃ b, b = W.heap.size := ⟨_, rfl⟩
  have hM := MP.made W
  have hEM := (Ext.refl W).alloc (.map #[] 0)
  have hbw : w.heap.size ≤ b := by rw [hb]; exact hE.size
  rw [← hb] at hM ⊢
  have hB1 := hEM.heap hB
  have hE1 := hE.trans hEM
  have hbg : b ≠ g1 := by have := heap_lt hB; omega
  generalize W.alloc (.map #[] 0) = W1 at *
  have hM2 : MP b 0 W1 (fun k => endOf (t.ranges.take 0) k) := by rw [List.take_zero]; exact hM
  clear hM hb hEM hB hE hg1
  obtain ⟨q0, q1, q2⟩ := blkT hB1
  go_wp2_with fail
  clear q0 q1 q2
  go_loopw [12] (fun i wr => ∃ (j : Nat), j ≤ n2 ∧ i = .int .i64 (j : Int) ∧ Hid (PreOk t.lo t.hi t.ranges j) ∧ MP b j wr (fun k => endOf (t.ranges.take j) k) ∧ wr.heap[g1]? = some (.cells #[.int .i64 t.lo, .int .i64 t.hi, .slice A2 n2 c2] 66 (0, 0)) ∧ Ext w wr) (fun i _ => n2 - (intOf i).toNat)
  case atStart => exact ⟨0, by omega, rfl, Lib.hid (fun i h h2 => absurd h2 (by omega)), hM2, hB1, hE1⟩
  case round =>
    clear hM2 hB1 hE1
    obtain ⟨j, hj, rfl, HP, hM, hB, hX⟩ := hrel
    obtain ⟨wo, rfl⟩ : ∃ wo : World, wo = wr := ⟨_, rfl⟩
    by_cases hlt : j < n2
    · have hij : (j : Int) < (n2 : Int) := by omega
      have hlt' : j < t.ranges.length := by rw [← HN2.out]; exact hlt
      have hat := fun (i : Nat) (hi : i < t.ranges.length) => (HY.out.ext hX).at_ hi
      obtain ⟨bb, oo, yp, hAe, hra, hpl⟩ := hat j hlt'
      subst hAe
      have HNO : Hid (¬ okAt t.lo t.hi (t.ranges.take j) t.ranges[j] → ¬ okRngs t.lo t.hi t.ranges) := Lib.hid (fun h h2 => h (h2 j hlt'))
      have HSU : Hid (okAt t.lo t.hi (t.ranges.take j) t.ranges[j] → PreOk t.lo t.hi t.ranges (j + 1)) := Lib.hid (fun h => HP.out.succ hlt' h)
      have HEN : Hid (∀ k, endOf (t.ranges.take (j + 1)) k = if pcOf t.ranges[j] = k then some t.ranges[j].hi else endOf (t.ranges.take j) k) := Lib.hid (fun k => by rw [List.take_succ_eq_append_getElem hlt', endOf_snoc])
      have HPR : Hid (0 < j → ∃ p A n c, t.ranges[j - 1]? = some p ∧ (t.ranges.take j).getLast? = some p ∧ wo.rangeAt bb (oo + (j - 1) * 6) (rngCells (p, .slice A n c))) := Lib.hid (fun h0 => by
        obtain ⟨b3, o3, y3, he, hr3, hp3⟩ := hat (j - 1) (by omega)
        injection he with he
        injection he with e1 e2 _
        subst e1 e2
        obtain ⟨A', c', rfl, _, _⟩ := hp3
        refine ⟨t.ranges[j - 1], A', _, c', List.getElem?_eq_getElem (by omega), ?_, hr3⟩
        rw [List.getLast?_eq_getElem?, List.length_take, Nat.min_eq_left (by omega), List.getElem?_take, if_pos (by omega), List.getElem?_eq_getElem])
      have HP0 : Hid (j = 0 → (t.ranges.take j).getLast? = none) := Lib.hid (fun h => by subst h; rfl)
      have hpln := HPI.out _ (List.getElem_mem hlt')
      clear hat
      generalize hpre : t.ranges.take j = pre at *
      generalize t.ranges[j] = r at *
      obtain ⟨A5, c5, rfl, _, _⟩ := id hpl
      obtain ⟨n5, hn5⟩ : ∃ n, n = r.places.length := ⟨_, rfl⟩
      have hld := rng_load hra
      rw [← hn5] at hld hpl hpln
      have HN5 := Lib.hid hn5
      clear hn5
      obtain ⟨hst, hG, hXG⟩ := box_new (P := Try.prog) wo 69 #[.int .i64 0, .int .i64 0, .int .i64 0, .int .i64 0, .int .i64 0, .slice none 0 0] #[.int .i64 r.ctx, .int .i64 r.var, .int .i64 r.piece, .int .i64 r.lo, .int .i64 r.hi, .slice A5 n5 c5] rg_size rfl (by simp [Value.oneCell'])
      go_upto_region 5 with first | refine wpList_load_run rfl 69 (.tmp 15) rfl _ _ rfl hld ?_ | refine wpList_store_run rfl 69 (.tmp 5) (.tmp 16) rfl _ _ _ rfl rfl hst ?_
      obtain ⟨g5, hg5⟩ : ∃ g, g = wo.heap.size := ⟨_, rfl⟩
      rw [← hg5] at hG hXG ⊢
      generalize (wo.alloc (.cells #[.int .i64 0, .int .i64 0, .int .i64 0, .int .i64 0, .int .i64 0, .slice none 0 0] 69)).setRow g5 #[.int .i64 r.ctx, .int .i64 r.var, .int .i64 r.piece, .int .i64 r.lo, .int .i64 r.hi, .slice A5 n5 c5] = wg at *
      dsimp only [Act.put]
      have hMg := hM.ext hXG
      have hXg := hX.trans hXG
      have hBg := hXG.heap hB
      have hpg := hpl.ext hXG
      have HPG : Hid (0 < j → ∃ p A n c, t.ranges[j - 1]? = some p ∧ pre.getLast? = some p ∧ wg.rangeAt bb (oo + (j - 1) * 6) (rngCells (p, .slice A n c))) := Lib.hid (fun h0 => by
        obtain ⟨p, A, n, c, h1, h2, h3⟩ := HPR.out h0
        exact ⟨p, A, n, c, h1, h2, fun i u hu => hXG.cell (h3 i u hu)⟩)
      obtain ⟨r0, r1, r2, r3, r4, r5⟩ := blk6 hG
      obtain ⟨t0, t1, t2⟩ := blkT hBg
      clear hst hld hra hXG hX hB hM hpl hg5 HPR
      go_cut [45] (fun s wx => ∃ d : Bool, s = .bool d ∧ (d = false ↔ (t.lo ≤ r.lo ∧ r.lo < r.hi ∧ r.hi ≤ t.hi ∧ 0 ≤ r.ctx ∧ r.ctx ≤ 255)) ∧ wx = wg)
      case first =>
        by_cases e1 : r.lo < t.lo
        case pos =>
          have t1' : decide (r.lo < t.lo) = true := by first | (simpa using e1) | (simp; omega)
          go_wp2_with fail
          go_meet
          exact ⟨true, rfl, ⟨fun h => (by cases h), fun h => (by omega)⟩, rfl⟩
        have t1' : decide (r.lo < t.lo) = false := by first | (simpa using e1) | (simp; omega)
        by_cases e2 : r.hi ≤ r.lo
        case pos =>
          have t2' : decide (r.hi ≤ r.lo) = true := by first | (simpa using e2) | (simp; omega)
          go_wp2_with fail
          go_meet
          exact ⟨true, rfl, ⟨fun h => (by cases h), fun h => (by omega)⟩, rfl⟩
        have t2' : decide (r.hi ≤ r.lo) = false := by first | (simpa using e2) | (simp; omega)
        by_cases e3 : t.hi < r.hi
        case pos =>
          have t3' : decide (t.hi < r.hi) = true := by first | (simpa using e3) | (simp; omega)
          go_wp2_with fail
          go_meet
          exact ⟨true, rfl, ⟨fun h => (by cases h), fun h => (by omega)⟩, rfl⟩
        have t3' : decide (t.hi < r.hi) = false := by first | (simpa using e3) | (simp; omega)
        by_cases e4 : r.ctx < 0
        case pos =>
          have t4' : decide (r.ctx < 0) = true := by first | (simpa using e4) | (simp; omega)
          go_wp2_with fail
          go_meet
          exact ⟨true, rfl, ⟨fun h => (by cases h), fun h => (by omega)⟩, rfl⟩
        have t4' : decide (r.ctx < 0) = false := by first | (simpa using e4) | (simp; omega)
        by_cases e5 : 255 < r.ctx
        case pos =>
          have t5' : decide (255 < r.ctx) = true := by first | (simpa using e5) | (simp; omega)
          go_wp2_with fail
          go_meet
          exact ⟨true, rfl, ⟨fun h => (by cases h), fun h => (by omega)⟩, rfl⟩
        have t5' : decide (255 < r.ctx) = false := by first | (simpa using e5) | (simp; omega)
        go_wp2_with fail
        go_meet
        exact ⟨false, rfl, ⟨fun _ => (by omega), fun _ => rfl⟩, rfl⟩
      obtain ⟨d, rfl, hd, hwe⟩ := hcut
      subst hwe
      obtain ⟨w5, rfl⟩ : ∃ W : World, W = wc := ⟨_, rfl⟩
      cases d with
      | true =>
        go_wp2_with fail
        go_ret
        refine Tells.no (fun h => ?_) hXg
        exact HNO.out (fun ho => by have h1 := ho.1; unfold okNum at h1; have := hd.2 (by omega); cases this) h
      | false =>
      have hok1 := hd.1 rfl
      clear hd
      go_upto_region 7 with fail
      go_cut [63] (fun s wx => ∃ d : Bool, s = .bool d ∧ (d = false ↔ (0 ≤ r.var ∧ r.var < 24 ∧ 0 ≤ r.piece ∧ r.piece < 4)) ∧ wx = w5)
      case first =>
        by_cases e1 : r.var < 0
        case pos =>
          have t1' : decide (r.var < 0) = true := by first | (simpa using e1) | (simp; omega)
          go_wp2_with fail
          go_meet
          exact ⟨true, rfl, ⟨fun h => (by cases h), fun h => (by omega)⟩, rfl⟩
        have t1' : decide (r.var < 0) = false := by first | (simpa using e1) | (simp; omega)
        by_cases e2 : 24 ≤ r.var
        case pos =>
          have t2' : decide (24 ≤ r.var) = true := by first | (simpa using e2) | (simp; omega)
          go_wp2_with fail
          go_meet
          exact ⟨true, rfl, ⟨fun h => (by cases h), fun h => (by omega)⟩, rfl⟩
        have t2' : decide (24 ≤ r.var) = false := by first | (simpa using e2) | (simp; omega)
        by_cases e3 : r.piece < 0
        case pos =>
          have t3' : decide (r.piece < 0) = true := by first | (simpa using e3) | (simp; omega)
          go_wp2_with fail
          go_meet
          exact ⟨true, rfl, ⟨fun h => (by cases h), fun h => (by omega)⟩, rfl⟩
        have t3' : decide (r.piece < 0) = false := by first | (simpa using e3) | (simp; omega)
        by_cases e4 : 4 ≤ r.piece
        case pos =>
          have t4' : decide (4 ≤ r.piece) = true := by first | (simpa using e4) | (simp; omega)
          go_wp2_with fail
          go_meet
          exact ⟨true, rfl, ⟨fun h => (by cases h), fun h => (by omega)⟩, rfl⟩
        have t4' : decide (4 ≤ r.piece) = false := by first | (simpa using e4) | (simp; omega)
        go_wp2_with fail
        go_meet
        exact ⟨false, rfl, ⟨fun _ => (by omega), fun _ => rfl⟩, rfl⟩
      obtain ⟨d, rfl, hd, hwe⟩ := hcut
      subst hwe
      obtain ⟨w6, rfl⟩ : ∃ W : World, W = wc := ⟨_, rfl⟩
      cases d with
      | true =>
        go_wp2_with fail
        go_ret
        refine Tells.no (fun h => ?_) hXg
        exact HNO.out (fun ho => by have h1 := ho.1; unfold okNum at h1; have := hd.2 (by omega); cases this) h
      | false =>
      have hok2 := hd.1 rfl
      clear hd
      have HNU : Hid (okNum t.lo t.hi r) := Lib.hid (by unfold okNum; omega)
      go_upto_region 9 with fail
      go_cut [78] (fun s wx => ∃ d : Bool, s = .bool d ∧ IffB d (okPl r) ∧ Ext w6 wx)
      case first =>
        by_cases e1 : n5 < 1
        case pos =>
          have d1 : decide ((n5 : Int) < 1) = true := by simp; omega
          have HPX : Hid (IffB true (okPl r)) := Lib.hid ⟨fun h => (by cases h), fun h => by have h1 := h.1; rw [← HN5.out] at h1; omega⟩
          go_wp2_with fail
          go_meet
          exact ⟨true, rfl, HPX.out, Ext.refl _⟩
        have d1 : decide ((n5 : Int) < 1) = false := by simp; omega
        by_cases e2 : 40 < n5
        case pos =>
          have d2 : decide ((40 : Int) < (n5 : Int)) = true := by simp; omega
          have HPX : Hid (IffB true (okPl r)) := Lib.hid ⟨fun h => (by cases h), fun h => by have h1 := h.2.1; rw [← HN5.out] at h1; omega⟩
          go_wp2_with fail
          go_meet
          exact ⟨true, rfl, HPX.out, Ext.refl _⟩
        have d2 : decide ((40 : Int) < (n5 : Int)) = false := by simp; omega
        go_wp2_with fail
        refine (containsWrong_any _ r.places w6 hpg (by rw [← HN5.out]; omega)).mono ?_
        rintro en w7 ⟨d, rfl, hd, hx7⟩
        have HPX : Hid (IffB d (okPl r)) := Lib.hid ⟨fun h => ⟨by rw [← HN5.out]; omega, by rw [← HN5.out]; omega, hd.1 h⟩, fun h => hd.2 h.2.2⟩
        clear hd
        go_wp2_with fail
        go_meet
        exact ⟨d, rfl, HPX.out, hx7⟩
      obtain ⟨d, rfl, hd, hx7⟩ := hcut
      obtain ⟨w7, rfl⟩ : ∃ W : World, W = wc := ⟨_, rfl⟩
      have hM7 := hMg.ext hx7
      have hX7 := hXg.trans hx7
      have hB7 := hx7.heap hBg
      have hG7 := hx7.heap hG
      have HP7 : Hid (0 < j → ∃ p A n c, t.ranges[j - 1]? = some p ∧ pre.getLast? = some p ∧ w7.rangeAt bb (oo + (j - 1) * 6) (rngCells (p, .slice A n c))) := Lib.hid (fun h0 => by
        obtain ⟨p, A, n, c, h1, h2, h3⟩ := HPG.out h0
        exact ⟨p, A, n, c, h1, h2, fun i u hu => hx7.cell (h3 i u hu)⟩)
      clear hx7 hMg hXg hBg hG hpg HPG r0 r1 r2 r3 r4 r5 t0 t1 t2 hok1 hok2
      obtain ⟨r0, r1, r2, r3, r4, r5⟩ := blk6 hG7
      obtain ⟨t0, t1, t2⟩ := blkT hB7
      cases d with
      | true =>
        go_wp2_with fail
        go_ret
        refine Tells.no (fun h => ?_) hX7
        exact HNO.out (fun ho => by have := hd.2 ho.2.1; cases this) h
      | false =>
      have HPL := Lib.hid (hd.1 rfl)
      clear hd
      go_upto_region 11 with fail
      go_cut [91] (fun s wx => ∃ d : Bool, s = .bool d ∧ IffB d (∀ p, pre.getLast? = some p → ltK p r) ∧ Ext w7 wx)
      case first =>
        by_cases h0 : 0 < j
        case neg =>
          have d0 : decide (0 < j) = false := by simp; omega
          have HPX : Hid (IffB false (∀ p, pre.getLast? = some p → ltK p r)) := Lib.hid ⟨fun _ p hp => (by rw [HP0.out (by omega)] at hp; cases hp), fun _ => rfl⟩
          go_quiet (fail)
          go_wp2_with fail
          go_meet
          exact ⟨false, rfl, HPX.out, (Ext.refl _).drewN _⟩
        obtain ⟨j1, hj1⟩ : ∃ j1, j = j1 + 1 := ⟨j - 1, by omega⟩
        obtain ⟨p, A8, n8, c8, hp1, hp2, hp3⟩ := HP7.out h0
        have d0 : decide (0 < j) = true := by simp; omega
        have d0' : decide ((0 : Int) < (j : Int)) = true := by simp; omega
        have wk : IntKind.i64.wrap ((j : Int) - 1) = (j1 : Int) := by rw [IntKind.wrap_i64]; omega
        have hkl : (j1 : Int) < (n2 : Int) := by omega
        rw [show j - 1 = j1 by omega] at hp3
        have HLG := Lib.hid hp2
        clear hj1 hp1 h0 hp2
        refine wp_region_X #[true, true, true, true, true, true, true, true, true, true, true, true, true] 13 0 (by kernel_rfl) rfl ?_
        refine wpX_v 0 (.int .i64 (j : Int)) rfl rfl (by kernel_rfl) (by kernel_rfl) (by kernel_rfl) (fun _ _ _ _ h => h) (by kernel_rfl) rfl (by rfl) (fun W' hW => by
          skip
          go_simp) ?_
        simp only [List.setIfInBounds_toArray, List.set_cons_zero, List.set_cons_succ]
        refine wpX_v 1 (.bool true) rfl rfl (by kernel_rfl) (by kernel_rfl) (by kernel_rfl) (fun _ _ _ _ h => h) (by kernel_rfl) rfl (by rfl) (fun W' hW => by
          skip
          go_simp) ?_
        simp only [List.setIfInBounds_toArray, List.set_cons_zero, List.set_cons_succ]
        refine wpX_v 2 (.bool true) rfl rfl (by kernel_rfl) (by kernel_rfl) (by kernel_rfl) (fun _ _ _ _ h => h) (by kernel_rfl) rfl (by rfl) (fun W' hW => by
          skip
          go_simp) ?_
        simp only [List.setIfInBounds_toArray, List.set_cons_zero, List.set_cons_succ]
        refine wpX_v 3 (.pointer (some ⟨g1, 2, none⟩)) rfl rfl (by kernel_rfl) (by kernel_rfl) (by kernel_rfl) (fun _ _ _ _ h => h) (by kernel_rfl) rfl (by rfl) (fun W' hW => by
          skip
          go_simp) ?_
        simp only [List.setIfInBounds_toArray, List.set_cons_zero, List.set_cons_succ]
        refine wpX_v 4 (.slice (some ⟨bb, oo, none⟩) n2 c2) rfl rfl (by kernel_rfl) (by kernel_rfl) (by kernel_rfl) (fun _ _ _ _ h => h) (by kernel_rfl) rfl (by rfl) (fun W' hW => by
          have z := (((Ext.refl w7).drew).trans hW).cell t2
          go_simp) ?_
        simp only [List.setIfInBounds_toArray, List.set_cons_zero, List.set_cons_succ]
        refine wpX_v 5 (.int .i64 (j : Int)) rfl rfl (by kernel_rfl) (by kernel_rfl) (by kernel_rfl) (fun _ _ _ _ h => h) (by kernel_rfl) rfl (by rfl) (fun W' hW => by
          skip
          go_simp) ?_
        simp only [List.setIfInBounds_toArray, List.set_cons_zero, List.set_cons_succ]
        refine wpX_v 6 (.int .i64 (j1 : Int)) rfl rfl (by kernel_rfl) (by kernel_rfl) (by kernel_rfl) (fun _ _ _ _ h => h) (by kernel_rfl) rfl (by rfl) (fun W' hW => by
          skip
          go_simp) ?_
        simp only [List.setIfInBounds_toArray, List.set_cons_zero, List.set_cons_succ]
        refine wpX_v 7 (.pointer (some ⟨bb, oo + j1 * 6, none⟩)) rfl rfl (by kernel_rfl) (by kernel_rfl) (by kernel_rfl) (fun _ _ _ _ h => h) (by kernel_rfl) rfl (by rfl) (fun W' hW => by
          skip
          go_simp) ?_
        simp only [List.setIfInBounds_toArray, List.set_cons_zero, List.set_cons_succ]
        refine wpX_v 8 (.agg #[.int .i64 p.ctx, .int .i64 p.var, .int .i64 p.piece, .int .i64 p.lo, .int .i64 p.hi, .slice A8 n8 c8]) rfl rfl (by kernel_rfl) (by kernel_rfl) (by kernel_rfl) (fun _ _ _ _ h => h) (by kernel_rfl) rfl (by rfl) (fun W' hW => exec_load19 69 (.tmp 86) rfl _ _ rfl (rng_load (fun i u hu => (((Ext.refl w7).drew).trans hW).cell (hp3 i u hu)))) ?_
        simp only [List.setIfInBounds_toArray, List.set_cons_zero, List.set_cons_succ]
        refine wpX_v 9 (.agg #[.int .i64 r.ctx, .int .i64 r.var, .int .i64 r.piece, .int .i64 r.lo, .int .i64 r.hi, .slice A5 n5 c5]) rfl rfl (by kernel_rfl) (by kernel_rfl) (by kernel_rfl) (fun _ _ _ _ h => h) (by kernel_rfl) rfl (by rfl) (fun W' hW => exec_load19 69 (.tmp 5) rfl _ _ rfl (run_loadAt_blk (P := Try.prog) W' g5 69 69 _ (0, 0) _ ((((Ext.refl w7).drew).trans hW).heap hG7) Try.underlying69 rfl rg_size)) ?_
        simp only [List.setIfInBounds_toArray, List.set_cons_zero, List.set_cons_succ]
        refine wpX_cg 10 94 #[.agg #[.int .i64 p.ctx, .int .i64 p.var, .int .i64 p.piece, .int .i64 p.lo, .int .i64 p.hi, .slice A8 n8 c8], .agg #[.int .i64 r.ctx, .int .i64 r.var, .int .i64 r.piece, .int .i64 r.lo, .int .i64 r.hi, .slice A5 n5 c5]] rfl rfl (by kernel_rfl) rfl (by rfl) (fun W => by go_simp) ?_
        intro W8 hW8
        refine (compareR_any p r _ _ W8 ⟨_, _, _, rfl⟩ ⟨_, _, _, rfl⟩).mono ?_
        rintro en w8' ⟨v, rfl, hv, he8⟩
        refine ⟨_, rfl, he8, ?_⟩
        simp only [List.setIfInBounds_toArray, List.set_cons_zero, List.set_cons_succ]
        refine wpX_v 11 (.bool (decide (0 ≤ v))) rfl rfl (by kernel_rfl) (by kernel_rfl) (by kernel_rfl) (fun _ _ _ _ h => h) (by kernel_rfl) rfl (by rfl) (fun W' hW => by
          skip
          go_simp) ?_
        simp only [List.setIfInBounds_toArray, List.set_cons_zero, List.set_cons_succ]
        refine wpX_v 12 (.bool (decide (0 ≤ v))) rfl rfl (by kernel_rfl) (by kernel_rfl) (by kernel_rfl) (fun _ _ _ _ h => h) (by kernel_rfl) rfl (by rfl) (fun W' hW => by
          skip
          go_simp) ?_
        simp only [List.setIfInBounds_toArray, List.set_cons_zero, List.set_cons_succ]
        refine wpX_end rfl fun W9 hW9 => tail_none (by kernel_rfl) ?_
        refine NoPanic.normal ?_
        have hX9 : Ext w7 W9 := ((((Ext.refl w7).drew).trans hW8).trans he8).trans hW9
        have HPX : Hid (IffB (decide (0 ≤ v)) (∀ p, pre.getLast? = some p → ltK p r)) := Lib.hid (by
          unfold IffB
          rw [decide_eq_false_iff_not, hv]
          constructor
          · intro h p' hp'
            rw [HLG.out] at hp'
            injection hp' with hp'
            subst hp'
            exact Classical.not_not.1 h
          · intro h h2
            exact h2 (h p HLG.out))
        clear hv he8 hW8 hW9
        obtain ⟨db, hdb⟩ : ∃ d, d = decide (0 ≤ v) := ⟨_, rfl⟩
        rw [← hdb] at HPX ⊢
        clear hdb
        go_wp2_with fail
        go_meet
        exact ⟨db, rfl, HPX.out, hX9⟩
      obtain ⟨d, rfl, hd, hx8⟩ := hcut
      obtain ⟨w8, rfl⟩ : ∃ W : World, W = wc := ⟨_, rfl⟩
      have hM8 := hM7.ext hx8
      have hX8 := hX7.trans hx8
      have hB8 := hx8.heap hB7
      have hG8 := hx8.heap hG7
      clear hx8 hM7 hX7 hB7 hG7 HP7 r0 r1 r2 r3 r4 r5 t0 t1 t2
      cases d with
      | true =>
        go_wp2_with fail
        go_ret
        refine Tells.no (fun h => ?_) hX8
        exact HNO.out (fun ho => by have := hd.2 ho.2.2.1; cases this) h
      | false =>
      have HLT := Lib.hid (hd.1 rfl)
      clear hd
      have hnu := HNU.out
      unfold okNum at hnu
      have i1 : I64 (pcOf r).1 := by unfold I64 pcOf; simp only; omega
      have i2 : I64 (pcOf r).2.1 := by unfold I64 pcOf; simp only; omega
      have i3 : I64 (pcOf r).2.2 := by unfold I64 pcOf; simp only; omega
      have HI1 := Lib.hid i1
      have HI2 := Lib.hid i2
      have HI3 := Lib.hid i3
      clear i1 i2 i3
      have hldr := run_loadAt_blk (P := Try.prog) w8 g5 69 69 _ (0, 0) _ hG8 Try.underlying69 rfl rg_size
      go_wp2_with first | refine wpList_load_run rfl 69 (.tmp 5) rfl _ _ rfl hldr ?_
      refine (pieceOf_any r _ w8 ⟨_, _, _, rfl⟩).mono ?_
      rintro en w9 ⟨rfl, hx9⟩
      have hM9 := hM8.ext hx9
      have hX9 := hX8.trans hx9
      have hB9 := hx9.heap hB8
      have hG9 := hx9.heap hG8
      have hlk := hM9.look HI1.out HI2.out HI3.out
      obtain ⟨ev, hev⟩ : ∃ e, e = (endOf pre (pcOf r)).getD 0 := ⟨_, rfl⟩
      obtain ⟨eb, heb⟩ : ∃ e, e = (endOf pre (pcOf r)).isSome := ⟨_, rfl⟩
      rw [← hev, ← heb] at hlk
      unfold pv pcOf at hlk
      dsimp only at hlk
      have HQ : Hid ((eb = true ∧ r.lo < ev) ↔ ¬ ∀ e, endOf pre (pcOf r) = some e → e ≤ r.lo) := Lib.hid (by
        rw [hev, heb]
        cases endOf pre (pcOf r) with
        | none => simp
        | some e => simp)
      clear hldr hM8 hX8 hB8 hG8 hx9 hev heb
      obtain ⟨r0, r1, r2, r3, r4, r5⟩ := blk6 hG9
      go_upto_region 14 with fail
      go_cut [105] (fun s wx => ∃ d : Bool, s = .bool d ∧ IffB d (∀ e, endOf pre (pcOf r) = some e → e ≤ r.lo) ∧ wx = w9)
      case first =>
        cases eb with
        | false =>
          have HPX : Hid (IffB false (∀ e, endOf pre (pcOf r) = some e → e ≤ r.lo)) := Lib.hid ⟨fun _ => Classical.not_not.1 (fun h => by have := (HQ.out.2 h).1; cases this), fun _ => rfl⟩
          go_wp2_with fail
          go_meet
          exact ⟨false, rfl, HPX.out, rfl⟩
        | true =>
          by_cases hl : r.lo < ev
          · have dl : decide (r.lo < ev) = true := by simpa using hl
            have HPX : Hid (IffB true (∀ e, endOf pre (pcOf r) = some e → e ≤ r.lo)) := Lib.hid ⟨fun h => (by cases h), fun h => absurd h (HQ.out.1 ⟨rfl, hl⟩)⟩
            go_wp2_with fail
            go_meet
            exact ⟨true, rfl, HPX.out, rfl⟩
          · have dl : decide (r.lo < ev) = false := by simpa using hl
            have HPX : Hid (IffB false (∀ e, endOf pre (pcOf r) = some e → e ≤ r.lo)) := Lib.hid ⟨fun _ => Classical.not_not.1 (fun h => hl (HQ.out.2 h).2), fun _ => rfl⟩
            go_wp2_with fail
            go_meet
            exact ⟨false, rfl, HPX.out, rfl⟩
      obtain ⟨d, rfl, hd, hwe⟩ := hcut
      subst hwe
      obtain ⟨wA, rfl⟩ : ∃ W : World, W = wc := ⟨_, rfl⟩
      clear HQ hlk
      cases d with
      | true =>
        go_wp2_with fail
        go_ret
        refine Tells.no (fun h => ?_) hX9
        exact HNO.out (fun ho => by have := hd.2 ho.2.2.2; cases this) h
      | false =>
      have HNX := Lib.hid (HSU.out ⟨HNU.out, HPL.out, HLT.out, hd.1 rfl⟩)
      clear hd
      go_upto_region 16 with fail
      refine wp_region_X #[true, true, true, true, true, false] 5 1 (by kernel_rfl) rfl ?_
      refine wpX_v 0 (.map (some b)) rfl rfl (by kernel_rfl) (by kernel_rfl) (by kernel_rfl) (fun _ _ _ _ h => h) (by kernel_rfl) rfl (by rfl) (fun W' hW => by
        skip
        go_simp) ?_
      simp only [List.setIfInBounds_toArray, List.set_cons_zero, List.set_cons_succ]
      refine wpX_v 1 (.agg #[.int .i64 r.ctx, .int .i64 r.var, .int .i64 r.piece, .int .i64 r.lo, .int .i64 r.hi, .slice A5 n5 c5]) rfl rfl (by kernel_rfl) (by kernel_rfl) (by kernel_rfl) (fun _ _ _ _ h => h) (by kernel_rfl) rfl (by rfl) (fun W' hW => exec_load19 69 (.tmp 5) rfl _ _ rfl (run_loadAt_blk (P := Try.prog) W' g5 69 69 _ (0, 0) _ ((((Ext.refl wA).drew).trans hW).heap hG9) Try.underlying69 rfl rg_size)) ?_
      simp only [List.setIfInBounds_toArray, List.set_cons_zero, List.set_cons_succ]
      refine wpX_v 3 (.pointer (some ⟨g5, 4, none⟩)) rfl rfl (by kernel_rfl) (by kernel_rfl) (by kernel_rfl) (fun _ _ _ _ h => h) (by kernel_rfl) rfl (by rfl) (fun W' hW => by
        skip
        go_simp) ?_
      simp only [List.setIfInBounds_toArray, List.set_cons_zero, List.set_cons_succ]
      refine wpX_v 4 (.int .i64 r.hi) rfl rfl (by kernel_rfl) (by kernel_rfl) (by kernel_rfl) (fun _ _ _ _ h => h) (by kernel_rfl) rfl (by rfl) (fun W' hW => by
        have z := (((Ext.refl wA).drew).trans hW).cell r4
        go_simp) ?_
      simp only [List.setIfInBounds_toArray, List.set_cons_zero, List.set_cons_succ]
      refine wpX_c 2 95 #[.agg #[.int .i64 r.ctx, .int .i64 r.var, .int .i64 r.piece, .int .i64 r.lo, .int .i64 r.hi, .slice A5 n5 c5]] rfl rfl (by kernel_rfl) rfl rfl (fun W => by go_simp) ?_
      intro W8 hW8
      refine (pieceOf_any r _ W8 ⟨_, _, _, rfl⟩).mono ?_
      rintro en w9' ⟨rfl, he9⟩
      refine ⟨_, rfl, he9, ?_⟩
      simp only [List.setIfInBounds_toArray, List.set_cons_zero, List.set_cons_succ]
      refine wpX_end rfl fun W9 hW9 => tail_seq 5 rfl (by kernel_rfl) ?_
      simp only [List.drop_succ_cons, List.drop_zero]
      have hXW : Ext wA W9 := ((((Ext.refl wA).drew).trans hW8).trans he9).trans hW9
      obtain ⟨W2, hrun, hM2, hg2⟩ := (hM9.ext hXW).put HI1.out HI2.out HI3.out (by omega) r.hi
      unfold pv pcOf at hrun
      dsimp only at hrun
      have hMN : MP b (j + 1) W2 (fun k => endOf (t.ranges.take (j + 1)) k) := by
        have e : (fun k => endOf (t.ranges.take (j + 1)) k) = (fun x => if x = pcOf r then some r.hi else endOf pre x) := by
          funext k
          rw [HEN.out k]
          by_cases hk : k = pcOf r
          · rw [if_pos hk.symm, if_pos hk]
          · rw [if_neg (fun e => hk e.symm), if_neg hk]
        rw [e]
        exact hM2
      have hXn : Ext w W2 := (hX9.trans hXW).grown hg2 (fun k e => by cases e; exact hbw)
      have hBn := blk_grown (hXW.heap hB9) hg2 (fun e => hbg (by cases e; rfl))
      clear hM2 hg2 hXW hW8 he9 hW9 hM9 hX9 hB9 hG9 r0 r1 r2 r3 r4 r5
      refine wpList_mapUpdate_run (w' := W2) rfl (.tmp 106) (.tmp 108) (.tmp 110) 151 rfl _ _ _ rfl rfl rfl hrun ?_
      refine NoPanic.normal ?_
      clear hrun
      have hwj : IntKind.i64.wrap ((j : Int) + 1) = ((j + 1 : Nat) : Int) := by rw [IntKind.wrap_i64]; omega
      go_wp2_with fail
      go_roundw
      case rel => exact ⟨j + 1, by omega, by first | (with_reducible rfl) | go_num, HNX, hMN, hBn, hXn⟩
      case measure => simp [intOf]; omega
    · have hij : ¬ (j : Int) < (n2 : Int) := by omega
      have HT : Hid (okRngs t.lo t.hi t.ranges) := Lib.hid (fun i hi => HP.out i hi (by have := HN2.out; omega))
      go_wp2_with fail
      go_ret
      exact Tells.yes HT.out hX
end Go.Proofs.Ytokmbdeafjmcjaa
/- What may be encoded: the walk of locs.Right. -/
namespace Go.Proofs.Ytokmbdeafjmcjaa
open Go.RowKit
set_option linter.unusedVariables false
set_option linter.unusedSimpArgs false

theorem rngsN_drop (l : List PTab) (j : Nat) : rngsN l = rngsN (l.take j) + rngsN (l.drop j) := by
  unfold rngsN
  rw [← List.sum_append, ← List.map_append, List.take_append_drop]
theorem rngsN_succ {l : List PTab} {j : Nat} (h : j < l.length) : rngsN (l.take (j + 1)) = rngsN (l.take j) + l[j].ranges.length := by
  unfold rngsN
  rw [List.take_succ_eq_append_getElem h, List.map_append, List.sum_append]
  simp only [List.map_cons, List.map_nil, List.sum_cons, List.sum_nil, Nat.add_zero]
theorem rngsN_le {l : List PTab} {j : Nat} (h : j < l.length) : rngsN (l.take j) + l[j].ranges.length ≤ rngsN l := by
  have h1 := rngsN_drop l (j + 1)
  rw [rngsN_succ h] at h1
  omega
theorem wrap_in19 {x : Int} (h : -9223372036854775808 ≤ x ∧ x ≤ 9223372036854775807) : IntKind.i64.wrap x = x := by rw [IntKind.wrap_i64]; omega
theorem wrap_add19 {N a : Nat} (hN : N ≤ 8000) (ha : a ≤ 9223372036854775807) :
    (8000 < IntKind.i64.wrap ((N : Int) + (a : Int)) → 8000 < N + a) ∧ (a ≤ 25769803776 → IntKind.i64.wrap ((N : Int) + (a : Int)) = ((N + a : Nat) : Int)) := by
  constructor
  · intro h
    by_cases h1 : N + a ≤ 8000
    · rw [wrap_in19 (by omega)] at h
      omega
    · omega
  · intro h1
    rw [wrap_in19 (by omega)]
    omega
set_option maxHeartbeats 40000000 in
set_option maxRecDepth 100000 in
theorem PRight_any (l : List PTab) (v : Value) (w : World) (hv : PTabs w v l) (hI : ∀ t ∈ l, t.I) (hl : l.length ≤ 9223372036854775807) : Calls Try.prog 40 #[v] w (Tells (RightP l) w) := by
  obtain ⟨A, c, rfl⟩ := hv.form
  have HV := Lib.hid hv
  have HI := Lib.hid hI
  clear hv hI
  go_enter Try.func40, Try.ntmps40
  by_cases h8 : 8 < l.length
  case pos =>
    have d8 : decide ((8 : Int) < (l.length : Int)) = true := by simp; omega
    go_wp2_with fail
    go_ret
    exact Tells.no (fun h => by have := h.1; omega) (Ext.refl _)
  have d8 : decide ((8 : Int) < (l.length : Int)) = false := by simp; omega
  go_wp2_with fail
  go_loopw [3, 4, 12] (fun n e i wr => ∃ (j : Nat) (N : Nat) (e' : Int), j ≤ l.length ∧ i = .int .i64 (j : Int) ∧ n = .int .i64 (N : Int) ∧ e = .int .i64 e' ∧ N ≤ 8000 ∧ (0 ≤ e' ∧ e' ≤ 1048576) ∧ Hid (N = rngsN (l.take j)) ∧ Hid (okPs 0 l ↔ okPs e' (l.drop j)) ∧ Ext w wr) (fun _ _ i _ => l.length - (intOf i).toNat)
  case atStart => exact ⟨0, 0, 0, by omega, rfl, rfl, rfl, by omega, by omega, Lib.hid (by simp [rngsN]), Lib.hid (by rw [List.drop_zero]), Ext.refl _⟩
  case round =>
    obtain ⟨j, N, e, hj, rfl, rfl, rfl, hN, he, HN, HR, hX⟩ := hrel
    obtain ⟨wo, rfl⟩ : ∃ wo : World, wo = wr := ⟨_, rfl⟩
    by_cases hlt : j < l.length
    · have hij : (j : Int) < (l.length : Int) := by omega
      obtain ⟨bb, oo, y, rfl, hra, hrw⟩ := (HV.out.ext hX).at_ hlt
      have HD := Lib.hid (List.drop_eq_getElem_cons hlt)
      have HLE := Lib.hid (rngsN_le hlt)
      have HSU := Lib.hid (rngsN_succ hlt)
      have HTI := Lib.hid (HI.out _ (List.getElem_mem hlt))
      generalize l[j] = t at *
      have hlo := HTI.out.lo
      have hhi := HTI.out.hi
      have hlen1 := HTI.out.len
      obtain ⟨A2, c2, rfl⟩ := hrw.form
      obtain ⟨n2, hn2⟩ : ∃ n, n = t.ranges.length := ⟨_, rfl⟩
      have hld := ptab_load hra
      rw [← hn2] at hld hrw hlen1 HLE HSU
      have HN2 := Lib.hid hn2
      clear hn2
      obtain ⟨hst, hG, hXG⟩ := box_new (P := Try.prog) wo 66 #[.int .i64 0, .int .i64 0, .slice none 0 0] #[.int .i64 t.lo, .int .i64 t.hi, .slice A2 n2 c2] pl_size rfl (by simp [Value.oneCell'])
      go_upto_region 7 with first | refine wpList_load_run rfl 66 (.tmp 14) rfl _ _ rfl hld ?_ | refine wpList_store_run rfl 66 (.tmp 6) (.tmp 15) rfl _ _ _ rfl rfl hst ?_
      obtain ⟨g, hg⟩ : ∃ g, g = wo.heap.size := ⟨_, rfl⟩
      rw [← hg] at hG hXG ⊢
      generalize (wo.alloc (.cells #[.int .i64 0, .int .i64 0, .slice none 0 0] 66)).setRow g #[.int .i64 t.lo, .int .i64 t.hi, .slice A2 n2 c2] = wg at *
      dsimp only [Act.put]
      obtain ⟨r0, r1, r2⟩ := blkT hG
      have hXX := hX.trans hXG
      have hrwA := hrw.ext hXG
      clear hst hld hra hXG hX hg hrw
      go_cut [36] (fun s wx => ∃ d : Bool, s = .bool d ∧ (d = false ↔ okP e t) ∧ wx = wg)
      case first =>
        by_cases e1 : t.lo < e
        case pos =>
          have t1 : decide (t.lo < e) = true := by first | (simpa using e1) | (simp; omega)
          go_wp2_with fail
          go_meet
          exact ⟨true, rfl, ⟨fun h => (by cases h), fun h => (by unfold okP at h; omega)⟩, rfl⟩
        have t1 : decide (t.lo < e) = false := by first | (simpa using e1) | (simp; omega)
        by_cases e2 : 1048576 < t.lo
        case pos =>
          have t2 : decide (1048576 < t.lo) = true := by first | (simpa using e2) | (simp; omega)
          go_wp2_with fail
          go_meet
          exact ⟨true, rfl, ⟨fun h => (by cases h), fun h => (by unfold okP at h; omega)⟩, rfl⟩
        have t2 : decide (1048576 < t.lo) = false := by first | (simpa using e2) | (simp; omega)
        by_cases e3 : t.hi < t.lo
        case pos =>
          have t3 : decide (t.hi < t.lo) = true := by first | (simpa using e3) | (simp; omega)
          go_wp2_with fail
          go_meet
          exact ⟨true, rfl, ⟨fun h => (by cases h), fun h => (by unfold okP at h; omega)⟩, rfl⟩
        have t3 : decide (t.hi < t.lo) = false := by first | (simpa using e3) | (simp; omega)
        by_cases e4 : 1048576 < t.hi
        case pos =>
          have t4 : decide (1048576 < t.hi) = true := by first | (simpa using e4) | (simp; omega)
          go_wp2_with fail
          go_meet
          exact ⟨true, rfl, ⟨fun h => (by cases h), fun h => (by unfold okP at h; omega)⟩, rfl⟩
        have t4 : decide (1048576 < t.hi) = false := by first | (simpa using e4) | (simp; omega)
        go_wp2_with fail
        go_meet
        exact ⟨false, rfl, ⟨fun _ => (by unfold okP; omega), fun _ => rfl⟩, rfl⟩
      obtain ⟨d, rfl, hd, hwe⟩ := hcut
      subst hwe
      obtain ⟨wI, rfl⟩ : ∃ W : World, W = wc := ⟨_, rfl⟩
      cases d with
      | true =>
        go_wp2_with fail
        go_ret
        refine Tells.no (fun h => ?_) hXX
        have h2 := HR.out.1 h.2.1
        rw [HD.out] at h2
        have := hd.2 h2.1
        cases this
      | false =>
        have hok : okP e t := hd.1 rfl
        have HOKT := Lib.hid hok
        unfold okP at hok
        clear hd
        obtain ⟨hw1, hw2⟩ := wrap_add19 (N := N) hN hlen1
        obtain ⟨nv, hnv⟩ : ∃ nv : Int, IntKind.i64.wrap ((N : Int) + (n2 : Int)) = nv := ⟨_, rfl⟩
        rw [hnv] at hw1 hw2
        have hnr : -9223372036854775808 ≤ nv ∧ nv ≤ 9223372036854775807 := by rw [← hnv, IntKind.wrap_i64]; omega
        have HW1 := Lib.hid hw1
        have HW2 := Lib.hid hw2
        clear hw1 hw2
        by_cases h80 : 8000 < nv
        case pos =>
          have d80 : decide (8000 < nv) = true := by simp; omega
          go_wp2_with fail
          go_ret
          refine Tells.no (fun h => ?_) hXX
          have h1 := h.2.2
          have h2 := HLE.out
          have h3 := HN.out
          have h4 := HW1.out h80
          omega
        have d80 : decide (8000 < nv) = false := by simp; omega
        go_wp2_with fail
        have hrr := rightRanges_any t (.slice A2 n2 c2) wI hrwA HTI.out
        refine hrr.mono ?_
        rintro en w9 ⟨r, rfl, hr, hx9⟩
        have hX9 := hXX.trans hx9
        clear hrr
        cases r with
        | false =>
          go_wp2_with fail
          go_ret
          refine Tells.no (fun h => ?_) hX9
          have h2 := HR.out.1 h.2.1
          rw [HD.out] at h2
          have := hr.2 h2.2.1
          cases this
        | true =>
          have HRW := Lib.hid (hr.1 rfl)
          clear hr
          have hle := okRngs_len HRW.out (by omega) (by omega)
          rw [← HN2.out] at hle
          have hn3 := HW2.out hle
          obtain ⟨N2, hN2⟩ : ∃ N2, N2 = N + n2 := ⟨_, rfl⟩
          rw [← hN2] at hn3
          subst hn3
          have HN3 : Hid (N2 = rngsN (l.take (j + 1))) := Lib.hid (by rw [HSU.out, ← HN.out, hN2])
          have HOK2 : Hid (okPs 0 l ↔ okPs t.hi (l.drop (j + 1))) := Lib.hid (by
            rw [HR.out, HD.out]
            exact ⟨fun h => h.2.2, fun h => ⟨HOKT.out, HRW.out, h⟩⟩)
          have hN28 : N2 ≤ 8000 := by omega
          clear hnr HD HR HN hN2 r0 r1 r2
          go_wp2_with fail
          go_roundw
          case rel => exact ⟨j + 1, N2, t.hi, by omega, by first | (with_reducible rfl) | go_num, by first | (with_reducible rfl) | go_num, by first | (with_reducible rfl) | go_num, hN28, by omega, HN3, HOK2, hX9⟩
          case measure => simp [intOf]; omega
    · have hij : ¬ (j : Int) < (l.length : Int) := by omega
      have HT : Hid (RightP l) := Lib.hid ⟨by omega, by rw [HR.out, List.drop_of_length_le (by omega)]; trivial, by have := HN.out; rw [List.take_of_length_le (by omega)] at this; omega⟩
      go_wp2_with fail
      go_ret
      exact Tells.yes HT.out hX
end Go.Proofs.Ytokmbdeafjmcjaa
