/- What may be encoded, as the specification says it: the walks of ref.Bounds and ref.Right. -/
import Derived.Test.YtokmbdeafjmcjaaLinC
namespace Go.Proofs.Ytokmbdeafjmcjaa
open Go.RowKit
set_option linter.unusedVariables false

set_option maxHeartbeats 4000000 in
theorem bounds_any (lo hi was : Int) (w : World) : Calls Try.prog 49 #[.int .i64 lo, .int .i64 hi, .int .i64 was] w (Tells (was ≤ lo ∧ 0 ≤ lo ∧ lo ≤ hi ∧ hi ≤ 1048576) w) := by
  go_enter Try.func49, Try.ntmps49
  by_cases e1 : was ≤ lo
  case neg =>
    have t1 : decide (was ≤ lo) = false := by simp; omega
    go_wp2_with fail
    go_ret
    exact Tells.no (fun h => by omega) (Ext.refl _)
  have t1 : decide (was ≤ lo) = true := by simpa using e1
  by_cases e2 : 0 ≤ lo
  case neg =>
    have t2 : decide (0 ≤ lo) = false := by simp; omega
    go_wp2_with fail
    go_ret
    exact Tells.no (fun h => by omega) (Ext.refl _)
  have t2 : decide (0 ≤ lo) = true := by simpa using e2
  by_cases e3 : lo ≤ hi
  case neg =>
    have t3 : decide (lo ≤ hi) = false := by simp; omega
    go_wp2_with fail
    go_ret
    exact Tells.no (fun h => by omega) (Ext.refl _)
  have t3 : decide (lo ≤ hi) = true := by simpa using e3
  by_cases e4 : hi ≤ 1048576
  case neg =>
    have t4 : decide (hi ≤ 1048576) = false := by simp; omega
    go_wp2_with fail
    go_ret
    exact Tells.no (fun h => by omega) (Ext.refl _)
  have t4 : decide (hi ≤ 1048576) = true := by simpa using e4
  go_wp2_with fail
  go_ret
  exact Tells.yes ⟨e1, e2, e3, e4⟩ (Ext.refl _)
set_option maxHeartbeats 40000000 in
set_option maxRecDepth 100000 in
theorem refRight18_any (l : List LTab) (v : Value) (w : World) (hv : LTabs w v l) (hI : ∀ t ∈ l, t.I) (hl : l.length ≤ 9223372036854775807) : Calls Try.prog 29 #[v] w (Tells (RightL l) w) := by
  obtain ⟨A, c, rfl⟩ := hv.form
  have HV := Lib.hid hv
  have HI := Lib.hid hI
  clear hv hI
  go_enter Try.func29, Try.ntmps29
  go_wp2_with fail
  go_loopw [3, 4, 11] (fun n e i wr => ∃ (j : Nat) (N : Nat) (e' : Int), j ≤ l.length ∧ i = .int .i64 (j : Int) ∧ n = .int .i64 (N : Int) ∧ e = .int .i64 e' ∧ (N : Int) ≤ e' ∧ (0 ≤ e' ∧ e' ≤ 1048576) ∧ Hid (N = rowsN (l.take j)) ∧ Hid (okTabs 0 l ↔ okTabs e' (l.drop j)) ∧ Ext w wr) (fun _ _ i _ => l.length - (intOf i).toNat)
  case atStart => exact ⟨0, 0, 0, by omega, rfl, rfl, rfl, by omega, by omega, Lib.hid (by simp [rowsN]), Lib.hid (by rw [List.drop_zero]), Ext.refl _⟩
  case round =>
    obtain ⟨j, N, e, hj, rfl, rfl, rfl, hN, he, HN, HR, hX⟩ := hrel
    obtain ⟨wo, rfl⟩ : ∃ wo : World, wo = wr := ⟨_, rfl⟩
    by_cases hlt : j < l.length
    · have hij : (j : Int) < (l.length : Int) := by omega
      obtain ⟨bb, oo, y, rfl, hra, hrows⟩ := (HV.out.ext hX).at_ hlt
      have HD := Lib.hid (List.drop_eq_getElem_cons hlt)
      have HSU := Lib.hid (rowsN_succ hlt)
      have HTI := Lib.hid (HI.out _ (List.getElem_mem hlt))
      generalize l[j] = t at *
      have hlo := HTI.out.lo
      have hhi := HTI.out.hi
      have hlen := HTI.out.len
      obtain ⟨A2, c2, rfl, _, _⟩ := id hrows
      have hld := ltab_load hra
      obtain ⟨hst, hG, hXG⟩ := box_new (P := Try.prog) wo 46 #[.int .i64 0, .int .i64 0, .slice none 0 0] #[.int .i64 t.lo, .int .i64 t.hi, .slice A2 t.rows.length c2] lt_size rfl (by simp [Value.oneCell'])
      go_upto_region 5 with first | refine wpList_load_run rfl 46 (.tmp 13) rfl _ _ rfl hld ?_ | refine wpList_store_run rfl 46 (.tmp 6) (.tmp 14) rfl _ _ _ rfl rfl hst ?_
      obtain ⟨g6, hg⟩ : ∃ g, g = wo.heap.size := ⟨_, rfl⟩
      rw [← hg] at hG hXG ⊢
      generalize (wo.alloc (.cells #[.int .i64 0, .int .i64 0, .slice none 0 0] 46)).setRow g6 #[.int .i64 t.lo, .int .i64 t.hi, .slice A2 t.rows.length c2] = wg at *
      dsimp only [Act.put]
      obtain ⟨r0, r1, r2⟩ := blkT hG
      have hXX := hX.trans hXG
      have hrw := hrows.ext hXG
      clear hst hld hra hXG hX hg hrows
      go_wp2_with fail
      refine (bounds_any t.lo t.hi e wg).mono ?_
      rintro en w2 ⟨d, rfl, hd, hx2⟩
      have hX2 := hXX.trans hx2
      have hG2 := hx2.heap hG
      have hrw2 := hrw.ext hx2
      clear hXX hG hrw r0 r1 r2 hx2
      obtain ⟨r0, r1, r2⟩ := blkT hG2
      cases d with
      | false =>
        go_wp2_with fail
        go_ret
        refine Tells.no (fun h => ?_) hX2
        have h2 := HR.out.1 h.2.1
        rw [HD.out] at h2
        have h3 := h2.1
        unfold okTab at h3
        have := hd.2 ⟨by omega, by omega, by omega, by omega⟩
        cases this
      | true =>
        have hb := hd.1 rfl
        have HOKT : Hid (okTab e t) := Lib.hid (by unfold okTab; omega)
        clear hd
        go_upto_region 7 with fail
        go_quiet (fail)
        go_upto_region 8 with fail
        obtain ⟨wp, hwp⟩ : ∃ W : World, W = w2.drewN nq := ⟨_, rfl⟩
        have hEp : Ext w2 wp := by rw [hwp]; exact (Ext.refl _).drewN _
        rw [← hwp]
        clear hwp
        have hXp := hX2.trans hEp
        have hGp := hEp.heap hG2
        have hrwp := hrw2.ext hEp
        clear r0 r1 r2 hX2 hG2 hrw2 hEp
        obtain ⟨r0, r1, r2⟩ := blkT hGp
        obtain ⟨nv, hnv, hnr⟩ : ∃ nv : Int, wrap64 ((N : Int) + (t.rows.length : Int)) = nv ∧ (t.rows.length ≤ 1048576 → nv = ((N + t.rows.length : Nat) : Int)) := ⟨_, rfl, fun h => by unfold wrap64; omega⟩
        rw [hnv]
        have HNR := Lib.hid hnr
        clear hnv hnr
        go_wp2_with fail
        go_loopw [32] (fun i wr => ∃ (k : Nat) (nx : Int), k ≤ t.rows.length ∧ i = .int .i64 (k : Int) ∧ (t.lo ≤ nx ∧ nx ≤ 1048577) ∧ Hid (okRows t.lo t.hi t.rows ↔ okRows nx t.hi (t.rows.drop k)) ∧ Hid (∀ p, 0 < k → t.rows[k - 1]? = some p → nx = p.addr + 1) ∧ Hid (k = 0 → nx = t.lo) ∧ Ext wp wr) (fun i _ => t.rows.length - (intOf i).toNat)
        case atStart => exact ⟨0, t.lo, by omega, rfl, by omega, Lib.hid (by rw [List.drop_zero]), Lib.hid (fun p h => absurd h (by omega)), Lib.hid (fun _ => rfl), Ext.refl _⟩
        case round =>
          obtain ⟨k, nx, hk, rfl, hnx, HRR, HPV, HP0, hXk⟩ := hrel
          obtain ⟨wz, rfl⟩ : ∃ W : World, W = wr := ⟨_, rfl⟩
          by_cases hlk : k < t.rows.length
          · have hki : (k : Int) < (t.rows.length : Int) := by omega
            have hat := fun (j : Nat) (hj : j < t.rows.length) => (hrwp.ext hXk).at_ (k := 4) (fun _ _ => rfl) (by omega) hj
            obtain ⟨b2, o2, hAe, hra⟩ := hat k hlk
            subst hAe
            have HDR := Lib.hid (List.drop_eq_getElem_cons hlk)
            have HGK := Lib.hid (List.getElem?_eq_getElem hlk)
            have HPC : Hid (0 < k → ∃ p, t.rows[k - 1]? = some p ∧ wz.cell? ⟨b2, o2 + (k - 1) * 4, none⟩ = some (.int .i64 p.addr)) := Lib.hid (fun h0 => by
              obtain ⟨b3, o3, he, hr3⟩ := hat (k - 1) (by omega)
              injection he with he
              injection he with e1 e2 _
              subst e1 e2
              exact ⟨_, List.getElem?_eq_getElem (by omega), hr3 0 _ rfl⟩)
            clear hat
            generalize t.rows[k] = r at *
            have hld := lrow_load hra
            obtain ⟨hst, hG, hXG⟩ := box_new (P := Try.prog) wz 53 #[.int .i64 0, .int .i64 0, .int .i64 0, .bool false] #[.int .i64 r.addr, .int .i64 r.ctx, .int .i64 r.stmt, .bool r.mark] rw_size rfl (by simp [Value.oneCell'])
            go_upto_region 11 with first | refine wpList_load_run rfl 53 (.tmp 35) rfl _ _ rfl hld ?_ | refine wpList_store_run rfl 53 (.tmp 8) (.tmp 36) rfl _ _ _ rfl rfl hst ?_
            obtain ⟨g8, hg8⟩ : ∃ g, g = wz.heap.size := ⟨_, rfl⟩
            rw [← hg8] at hG hXG ⊢
            generalize (wz.alloc (.cells #[.int .i64 0, .int .i64 0, .int .i64 0, .bool false] 53)).setRow g8 #[.int .i64 r.addr, .int .i64 r.ctx, .int .i64 r.stmt, .bool r.mark] = wg at *
            dsimp only [Act.put]
            have hXg := hXk.trans hXG
            obtain ⟨s0, s1, s2, s3⟩ := blkR hG
            obtain ⟨p0, p1, p2⟩ := blkT (hXg.heap hGp)
            have HPG : Hid (0 < k → ∃ p, t.rows[k - 1]? = some p ∧ wg.cell? ⟨b2, o2 + (k - 1) * 4, none⟩ = some (.int .i64 p.addr)) := Lib.hid (fun h0 => by
              obtain ⟨p, h1, h2⟩ := HPC.out h0
              exact ⟨p, h1, hXG.cell h2⟩)
            clear hst hld hra hG hXG hXk hg8 HPC r0 r1 r2
            go_cut [98] (fun s wx => ∃ d : Bool, s = .bool d ∧ (d = false ↔ okRow nx t.hi r) ∧ Ext wg wx)
            case first =>
              by_cases e1 : r.addr < t.lo
              case pos =>
                have t1 : decide (r.addr < t.lo) = true := by first | (simpa using e1) | (simp; omega)
                go_quiet (fail)
                go_wp2_with fail
                go_meet
                exact ⟨true, rfl, ⟨fun h => (by cases h), fun h => (by have := h.1; omega)⟩, (Ext.refl _).drewN _⟩
              have t1 : decide (r.addr < t.lo) = false := by first | (simpa using e1) | (simp; omega)
              by_cases e2 : t.hi ≤ r.addr
              case pos =>
                have t2 : decide (t.hi ≤ r.addr) = true := by first | (simpa using e2) | (simp; omega)
                go_quiet (fail)
                go_wp2_with fail
                go_meet
                exact ⟨true, rfl, ⟨fun h => (by cases h), fun h => (by have := h.1; omega)⟩, (Ext.refl _).drewN _⟩
              have t2 : decide (t.hi ≤ r.addr) = false := by first | (simpa using e2) | (simp; omega)
              by_cases e0 : 0 < k
              case neg =>
                have t0 : decide (0 < k) = false := by simp; omega
                have e3 := HP0.out (by omega)
                have HE0 := Lib.hid e0
                clear e0
                by_cases e4 : r.ctx < 0
                case pos =>
                  have t4 : decide (r.ctx < 0) = true := by first | (simpa using e4) | (simp; omega)
                  go_quiet (fail)
                  go_wp2_with fail
                  go_meet
                  exact ⟨true, rfl, ⟨fun h => (by cases h), fun h => (by have := h.1; omega)⟩, (Ext.refl _).drewN _⟩
                have t4 : decide (r.ctx < 0) = false := by first | (simpa using e4) | (simp; omega)
                by_cases e5 : 255 < r.ctx
                case pos =>
                  have t5 : decide (255 < r.ctx) = true := by first | (simpa using e5) | (simp; omega)
                  go_quiet (fail)
                  go_wp2_with fail
                  go_meet
                  exact ⟨true, rfl, ⟨fun h => (by cases h), fun h => (by have := h.1; omega)⟩, (Ext.refl _).drewN _⟩
                have t5 : decide (255 < r.ctx) = false := by first | (simpa using e5) | (simp; omega)
                by_cases e6 : r.stmt < -1
                case pos =>
                  have t6 : decide (r.stmt < -1) = true := by first | (simpa using e6) | (simp; omega)
                  go_quiet (fail)
                  go_wp2_with fail
                  go_meet
                  exact ⟨true, rfl, ⟨fun h => (by cases h), fun h => (by have := h.1; omega)⟩, (Ext.refl _).drewN _⟩
                have t6 : decide (r.stmt < -1) = false := by first | (simpa using e6) | (simp; omega)
                by_cases e7 : 9999 < r.stmt
                case pos =>
                  have t7 : decide (9999 < r.stmt) = true := by first | (simpa using e7) | (simp; omega)
                  go_quiet (fail)
                  go_wp2_with fail
                  go_meet
                  exact ⟨true, rfl, ⟨fun h => (by cases h), fun h => (by have := h.1; omega)⟩, (Ext.refl _).drewN _⟩
                have t7 : decide (9999 < r.stmt) = false := by first | (simpa using e7) | (simp; omega)
                by_cases e8 : r.stmt < 0
                case neg =>
                  have t8 : decide (r.stmt < 0) = false := by first | (simpa using e8) | (simp; omega)
                  go_quiet (fail)
                  go_wp2_with fail
                  go_meet
                  exact ⟨false, rfl, ⟨fun _ => ⟨by omega, fun h => by omega⟩, fun _ => rfl⟩, (Ext.refl _).drewN _⟩
                have t8 : decide (r.stmt < 0) = true := by first | (simpa using e8) | (simp; omega)
                by_cases e9 : r.ctx = 0
                case neg =>
                  have t9 : (r.ctx != 0) = true := by simpa using e9
                  go_quiet (fail)
                  go_wp2_with fail
                  go_meet
                  exact ⟨true, rfl, ⟨fun h => (by cases h), fun h => (by have := h.2 (by omega); omega)⟩, (Ext.refl _).drewN _⟩
                have t9 : (r.ctx != 0) = false := by simpa using e9
                have HE9 := Lib.hid e9
                clear e9
                go_quiet (fail)
                go_wp2_with fail
                go_meet
                exact ⟨r.mark, rfl, ⟨fun h => ⟨by have := HE9.out; omega, fun _ => ⟨HE9.out, h⟩⟩, fun h => (h.2 (by omega)).2⟩, (Ext.refl _).drewN _⟩
              obtain ⟨k1, hk1⟩ : ∃ k1, k = k1 + 1 := ⟨k - 1, by omega⟩
              obtain ⟨p, hp1, hp2⟩ := HPG.out e0
              have e3 := HPV.out p e0 hp1
              have t0 : decide (0 < k) = true := by simp; omega
              have wk : IntKind.i64.wrap ((k : Int) - 1) = (k1 : Int) := by rw [IntKind.wrap_i64]; omega
              have hkl : (k1 : Int) < (t.rows.length : Int) := by omega
              rw [show k - 1 = k1 by omega] at hp2
              have HK1 := Lib.hid hk1
              clear hk1 hp1 e0
              by_cases e10 : r.addr ≤ p.addr
              case pos =>
                have t10 : decide (r.addr ≤ p.addr) = true := by first | (simpa using e10) | (simp; omega)
                go_quiet (fail)
                go_wp2_with fail
                go_meet
                exact ⟨true, rfl, ⟨fun h => (by cases h), fun h => (by have := h.1; omega)⟩, (Ext.refl _).drewN _⟩
              have t10 : decide (r.addr ≤ p.addr) = false := by first | (simpa using e10) | (simp; omega)
              by_cases e4 : r.ctx < 0
              case pos =>
                have t4 : decide (r.ctx < 0) = true := by first | (simpa using e4) | (simp; omega)
                go_quiet (fail)
                go_wp2_with fail
                go_meet
                exact ⟨true, rfl, ⟨fun h => (by cases h), fun h => (by have := h.1; omega)⟩, (Ext.refl _).drewN _⟩
              have t4 : decide (r.ctx < 0) = false := by first | (simpa using e4) | (simp; omega)
              by_cases e5 : 255 < r.ctx
              case pos =>
                have t5 : decide (255 < r.ctx) = true := by first | (simpa using e5) | (simp; omega)
                go_quiet (fail)
                go_wp2_with fail
                go_meet
                exact ⟨true, rfl, ⟨fun h => (by cases h), fun h => (by have := h.1; omega)⟩, (Ext.refl _).drewN _⟩
              have t5 : decide (255 < r.ctx) = false := by first | (simpa using e5) | (simp; omega)
              by_cases e6 : r.stmt < -1
              case pos =>
                have t6 : decide (r.stmt < -1) = true := by first | (simpa using e6) | (simp; omega)
                go_quiet (fail)
                go_wp2_with fail
                go_meet
                exact ⟨true, rfl, ⟨fun h => (by cases h), fun h => (by have := h.1; omega)⟩, (Ext.refl _).drewN _⟩
              have t6 : decide (r.stmt < -1) = false := by first | (simpa using e6) | (simp; omega)
              by_cases e7 : 9999 < r.stmt
              case pos =>
                have t7 : decide (9999 < r.stmt) = true := by first | (simpa using e7) | (simp; omega)
                go_quiet (fail)
                go_wp2_with fail
                go_meet
                exact ⟨true, rfl, ⟨fun h => (by cases h), fun h => (by have := h.1; omega)⟩, (Ext.refl _).drewN _⟩
              have t7 : decide (9999 < r.stmt) = false := by first | (simpa using e7) | (simp; omega)
              by_cases e8 : r.stmt < 0
              case neg =>
                have t8 : decide (r.stmt < 0) = false := by first | (simpa using e8) | (simp; omega)
                go_quiet (fail)
                go_wp2_with fail
                go_meet
                exact ⟨false, rfl, ⟨fun _ => ⟨by omega, fun h => by omega⟩, fun _ => rfl⟩, (Ext.refl _).drewN _⟩
              have t8 : decide (r.stmt < 0) = true := by first | (simpa using e8) | (simp; omega)
              by_cases e9 : r.ctx = 0
              case neg =>
                have t9 : (r.ctx != 0) = true := by simpa using e9
                go_quiet (fail)
                go_wp2_with fail
                go_meet
                exact ⟨true, rfl, ⟨fun h => (by cases h), fun h => (by have := h.2 (by omega); omega)⟩, (Ext.refl _).drewN _⟩
              have t9 : (r.ctx != 0) = false := by simpa using e9
              have HE9 := Lib.hid e9
              clear e9
              go_quiet (fail)
              go_wp2_with fail
              go_meet
              exact ⟨r.mark, rfl, ⟨fun h => ⟨by have := HE9.out; omega, fun _ => ⟨HE9.out, h⟩⟩, fun h => (h.2 (by omega)).2⟩, (Ext.refl _).drewN _⟩
            obtain ⟨d, rfl, hd, hXc⟩ := hcut
            obtain ⟨wy, rfl⟩ : ∃ W : World, W = wc := ⟨_, rfl⟩
            have hXe := hXg.trans hXc
            clear p0 p1 p2 s0 s1 s2 s3 hXg hXc HPG
            cases d with
            | true =>
              go_wp2_with fail
              go_ret
              refine Tells.no (fun h => ?_) (hXp.trans hXe)
              have h2 := HR.out.1 h.2.1
              rw [HD.out] at h2
              have h4 := HRR.out.1 h2.2.1
              rw [HDR.out] at h4
              have := hd.2 h4.1
              cases this
            | false =>
              have hok := hd.1 rfl
              have hok1 := hok.1
              have HRR2 : Hid (okRows t.lo t.hi t.rows ↔ okRows (r.addr + 1) t.hi (t.rows.drop (k + 1))) := Lib.hid (by
                rw [HRR.out, HDR.out]
                exact ⟨fun h => h.2, fun h => ⟨hok, h⟩⟩)
              have HPV2 : Hid (∀ p, 0 < k + 1 → t.rows[k + 1 - 1]? = some p → r.addr + 1 = p.addr + 1) := Lib.hid (fun p _ hp => by
                rw [show k + 1 - 1 = k by omega, HGK.out] at hp
                injection hp with hp
                rw [hp])
              clear hd hok HRR HDR HGK HPV HP0
              go_wp2_with fail
              go_roundw
              case rel => exact ⟨k + 1, r.addr + 1, by omega, by first | (with_reducible rfl) | go_num, by omega, HRR2, HPV2, Lib.hid (fun h => absurd h (by omega)), hXe⟩
              case measure => simp [intOf]; omega
          · have hki : ¬ (k : Int) < (t.rows.length : Int) := by omega
            have HTR : Hid (okRows t.lo t.hi t.rows) := Lib.hid (by rw [HRR.out, List.drop_of_length_le (by omega)]; trivial)
            have hle : N + t.rows.length ≤ t.hi := by
              by_cases h0 : t.rows = []
              · rw [h0]
                simp only [List.length_nil]
                omega
              · have := okRows_len HTR.out h0
                omega
            have hne := HNR.out (by omega)
            have HN2 : Hid (N + t.rows.length = rowsN (l.take (j + 1))) := Lib.hid (by rw [HSU.out, ← HN.out])
            have HR2 : Hid (okTabs 0 l ↔ okTabs t.hi (l.drop (j + 1))) := Lib.hid (by
              rw [HR.out, HD.out]
              exact ⟨fun h => h.2.2, fun h => ⟨HOKT.out, HTR.out, h⟩⟩)
            subst hne
            have hXe := hXp.trans hXk
            clear HNR HRR HPV HP0 HN HR HSU HD r0 r1 r2
            go_wp2_with fail
            go_roundw
            case rel => exact ⟨j + 1, N + t.rows.length, t.hi, by omega, by first | (with_reducible rfl) | go_num, by first | (with_reducible rfl) | go_num, rfl, by omega, by omega, HN2, HR2, hXe⟩
            case measure => simp [intOf]; omega
    · have hij : ¬ (j : Int) < (l.length : Int) := by omega
      have HT : Hid (okTabs 0 l) := Lib.hid (by rw [HR.out, List.drop_of_length_le (by omega)]; trivial)
      have hNN : N = rowsN l := by have := HN.out; rwa [List.take_of_length_le (by omega)] at this
      have HNN := Lib.hid hNN
      clear hNN
      by_cases h8 : l.length ≤ 8
      case neg =>
        have d8 : decide ((l.length : Int) ≤ 8) = false := by simp; omega
        go_wp2_with fail
        go_ret
        exact Tells.no (fun h => h8 h.1) hX
      have d8 : decide ((l.length : Int) ≤ 8) = true := by simp; omega
      by_cases h80 : N ≤ 8000
      case neg =>
        have d80 : decide ((N : Int) ≤ 8000) = false := by simp; omega
        go_wp2_with fail
        go_ret
        exact Tells.no (fun h => by have := h.2.2; rw [← HNN.out] at this; omega) hX
      have d80 : decide ((N : Int) ≤ 8000) = true := by simp; omega
      go_wp2_with fail
      go_ret
      exact Tells.yes ⟨h8, HT.out, by rw [← HNN.out]; exact h80⟩ hX
end Go.Proofs.Ytokmbdeafjmcjaa
