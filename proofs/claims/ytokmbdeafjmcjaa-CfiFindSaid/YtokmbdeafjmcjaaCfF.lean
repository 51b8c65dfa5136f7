/- The walk of CfiFind. -/
import Derived.Test.YtokmbdeafjmcjaaCfK
namespace Go.Proofs.Ytokmbdeafjmcjaa
open Go.RowKit
set_option linter.unusedVariables false
set_option linter.unusedSimpArgs false

/-- the two tables that are looked at -/
structure Two20 (W : World) (gt : Nat) (x0 x1 : Value) (l0 l1 : List FTab) : Prop where
  row : W.heap[gt]? = some (.cells #[x0, x1] 22 (0, 0))
  t0 : FTabs W x0 l0
  t1 : FTabs W x1 l1
theorem Two20.ext {W W' : World} {gt : Nat} {x0 x1 : Value} {l0 l1 : List FTab} (h : Two20 W gt x0 x1 l0 l1) (he : Ext W W') : Two20 W' gt x0 x1 l0 l1 := ⟨he.heap h.row, h.t0.ext he, h.t1.ext he⟩
theorem Two20.get {W : World} {gt : Nat} {x0 x1 : Value} {l0 l1 : List FTab} (h : Two20 W gt x0 x1 l0 l1) (h0 : ∀ t ∈ l0, t.I) (h1 : ∀ t ∈ l1, t.I) (m0 : l0.length ≤ 1000) (m1 : l1.length ≤ 1000) {i : Nat} (hi : i < 2) :
    ∃ x l, W.cell? ⟨gt, i, none⟩ = some x ∧ FTabs W x l ∧ (∀ t ∈ l, t.I) ∧ l.length ≤ 1000 := by
  match i, hi with
  | 0, _ => exact ⟨x0, l0, blk_at h.row 0 _ rfl, h.t0, h0, m0⟩
  | 1, _ => exact ⟨x1, l1, blk_at h.row 1 _ rfl, h.t1, h1, m1⟩
set_option maxHeartbeats 40000000 in
set_option maxRecDepth 100000 in
theorem find20_walk (x y : Value) (l : List FTab) (nums : List Int) (addr : Int) (w : World) (hx : FTabs w x l) (hI : ∀ t ∈ l, t.I) (hl : l.length ≤ 9223372036854775807) (hy : InI w y nums) (hnl : nums.length ≤ 9223372036854775807) :
    Calls Try.prog 5 #[x, y, .int .i64 addr] w fun en w' => en = .returned (.bool true) ∧ Ext w w' := by
  obtain ⟨A, c, rfl⟩ := hx.form
  have HX := Lib.hid hx
  have HI := Lib.hid hI
  obtain ⟨nl, hnl'⟩ : ∃ n, n = l.length := ⟨_, rfl⟩
  rw [← hnl'] at hl ⊢
  have HNL := Lib.hid hnl'
  clear hx hI hnl'
  go_enter Try.func5, Try.ntmps5
  by_cases h20 : 20 < nl
  case pos =>
    have d : decide ((20 : Int) < (nl : Int)) = true := by simp; omega
    go_wp2_with fail
    refine (known20_any w).mono ?_
    rintro en w2 ⟨rfl, hx2⟩
    go_wp2_with fail
    go_ret
    exact ⟨rfl, hx2⟩
  have d : decide ((20 : Int) < (nl : Int)) = false := by simp; omega
  go_wp2_with fail
  refine (tables20_any y nums w hy hnl).mono ?_
  rintro en w1 ⟨y1, l1, lo1, rfl, hT1, hG1, hl1, hx1⟩
  obtain ⟨A1, c1, hv1⟩ := hT1.in_.form
  obtain ⟨n1, hn1⟩ : ∃ n, n = l1.length := ⟨_, rfl⟩
  rw [← hn1] at hv1
  subst hv1
  have hR1 := hG1.right hl1
  have hI1 : ∀ t ∈ l1, t.I := fun t ht => hR1.I ht
  have hA := (Ext.refl w1).alloc (.cells #[.slice A nl c, .slice A1 n1 c1] 22)
  have hB := heap_alloc_new w1 (.cells #[.slice A nl c, .slice A1 n1 c1] 22)
  have hTT : Two20 (w1.alloc (.cells #[.slice A nl c, .slice A1 n1 c1] 22)) w1.heap.size (.slice A nl c) (.slice A1 n1 c1) l l1 := ⟨hB, by have := HX.out.ext (hx1.trans hA); rw [← HNL.out] at this; exact this, hT1.in_.ext hA⟩
  have hE := hx1.trans hA
  have HGET := Lib.hid (fun (W : World) (h : Two20 W w1.heap.size (.slice A nl c) (.slice A1 n1 c1) l l1) (i : Nat) (hi : i < 2) => h.get HI.out hI1 (by rw [← HNL.out]; omega) (by omega) hi)
  clear hn1 hT1 hG1 hR1 hI1 hx1 hA hB hl1
  go_wp2_with fail
  generalize w1.alloc (.cells #[.slice A nl c, .slice A1 n1 c1] 22) = w2 at *
  generalize w1.heap.size = gt at *
  go_loopw [30] (fun i wr => ∃ k : Nat, k ≤ 2 ∧ i = .int .i64 (k : Int) ∧ Two20 wr gt (.slice A nl c) (.slice A1 n1 c1) l l1 ∧ Ext w wr) (fun i _ => 2 - (intOf i).toNat)
  case atStart => exact ⟨0, by omega, rfl, hTT, hE⟩
  case round =>
    clear hTT hE
    obtain ⟨k, hk, rfl, hTT, hE⟩ := hrel
    obtain ⟨wo, rfl⟩ : ∃ W : World, W = wr := ⟨_, rfl⟩
    by_cases hk2 : k < 2
    · have hki : (k : Int) < 2 := by omega
      obtain ⟨xs, ls, hcx, hTx, hIx, hlx⟩ := HGET.out wo hTT k hk2
      obtain ⟨AX, cX, hvx⟩ := hTx.form
      obtain ⟨nx, hnx⟩ : ∃ n, n = ls.length := ⟨_, rfl⟩
      rw [← hnx] at hvx hlx
      subst hvx
      have HNX := Lib.hid hnx
      have HIX := Lib.hid hIx
      clear hnx hIx
      go_wp2_with fail
      refine (Mod_any addr 400 wo (by omega) (by omega)).mono ?_
      rintro en wM ⟨rfl, rfl⟩
      obtain ⟨am, ham⟩ : ∃ a, addr % 400 = a := ⟨_, rfl⟩
      rw [ham]
      have hA := (Ext.refl wo).alloc (.cells #[.int .i64 addr, .int .i64 am] 3)
      have hB := heap_alloc_new wo (.cells #[.int .i64 addr, .int .i64 am] 3)
      have hTa := hTT.ext hA
      have hXa := hTx.ext hA
      have hEa := hE.trans hA
      clear hTT hTx hE hA hcx ham
      go_wp2_with fail
      generalize wo.alloc (.cells #[.int .i64 addr, .int .i64 am] 3) = w3 at *
      generalize wo.heap.size = ga at *
      go_loopw [39] (fun i wr => ∃ j : Nat, j ≤ 2 ∧ i = .int .i64 (j : Int) ∧ wr.heap[ga]? = some (.cells #[.int .i64 addr, .int .i64 am] 3 (0, 0)) ∧ Two20 wr gt (.slice A nl c) (.slice A1 n1 c1) l l1 ∧ FTabs wr (.slice AX nx cX) ls ∧ Ext w wr) (fun i _ => 2 - (intOf i).toNat)
      case atStart => exact ⟨0, by omega, rfl, hB, hTa, hXa, hEa⟩
      case round =>
        clear hB hTa hXa hEa
        obtain ⟨j, hj, rfl, hB, hTT, hTx, hE⟩ := hrel
        obtain ⟨wp, rfl⟩ : ∃ W : World, W = wr := ⟨_, rfl⟩
        by_cases hj2 : j < 2
        · have hji : (j : Int) < 2 := by omega
          obtain ⟨a, hca⟩ : ∃ a, wp.cell? ⟨ga, j, none⟩ = some (.int .i64 a) := by
            match j, hj2 with
            | 0, _ => exact ⟨addr, blk_at hB 0 _ rfl⟩
            | 1, _ => exact ⟨am, blk_at hB 1 _ rfl⟩
          go_wp2_with fail
          refine (Find_any ls _ a wp (by have := hTx; exact this) (by rw [← HNX.out]; omega)).mono ?_
          rintro en w4 ⟨f1, b1, rfl, HF1, hx4⟩
          have hB4 := hx4.heap hB
          have hTT4 := hTT.ext hx4
          have hTx4 := hTx.ext hx4
          have hE4 := hE.trans hx4
          have HF1' := Lib.hid HF1
          clear hca hB hTT hTx hE hx4 HF1
          go_wp2_with fail
          refine (refFind_any ls _ a w4 hTx4 (by rw [← HNX.out]; omega)).mono ?_
          rintro en w5 ⟨f2, b2, rfl, HF2, hx5⟩
          obtain ⟨rfl, rfl⟩ : f2 = f1 ∧ b2 = b1 := by
            have h := HF2.trans HF1'.out.symm
            injection h with h1 h2
            exact ⟨h1, h2⟩
          have hB5 := hx5.heap hB4
          have hTT5 := hTT4.ext hx5
          have hTx5 := hTx4.ext hx5
          have hE5 := hE4.trans hx5
          have hf : (f2 != f2) = false := by simp
          have hb : (b2 != b2) = false := by simp
          clear hB4 hTT4 hTx4 hE4 hx5 HF2 HF1'
          go_wp2_with fail
          go_loopw [65] (fun i wr => ∃ q : Nat, q ≤ nx ∧ i = .int .i64 (q : Int) ∧ wr.heap[ga]? = some (.cells #[.int .i64 addr, .int .i64 am] 3 (0, 0)) ∧ Two20 wr gt (.slice A nl c) (.slice A1 n1 c1) l l1 ∧ FTabs wr (.slice AX nx cX) ls ∧ Ext w wr) (fun i _ => nx - (intOf i).toNat)
          case atStart => exact ⟨0, by omega, rfl, hB5, hTT5, hTx5, hE5⟩
          case round =>
            clear hB5 hTT5 hTx5 hE5
            obtain ⟨q, hq, rfl, hB, hTT, hTx, hE⟩ := hrel
            obtain ⟨wq, rfl⟩ : ∃ W : World, W = wr := ⟨_, rfl⟩
            by_cases hqx : q < nx
            · have hqi : (q : Int) < (nx : Int) := by omega
              have hql : q < ls.length := by rw [← HNX.out]; exact hqx
              obtain ⟨bb, oo, yv, zv, hAe, hra, hr1, hr2⟩ := hTx.at_ hql
              subst hAe
              have hTI := HIX.out _ (List.getElem_mem hql)
              generalize ls[q] = t at *
              obtain ⟨A2, c2, rfl, _, _⟩ := id hr1
              obtain ⟨A3, c3, rfl, _, _⟩ := id hr2
              obtain ⟨n2, hn2⟩ : ∃ n, n = t.steps.length := ⟨_, rfl⟩
              have hld := ftab_load hra
              rw [← hn2] at hld
              have HN2 := Lib.hid hn2
              clear hn2
              obtain ⟨hst, hG, hXG⟩ := box_new (P := Try.prog) wq 27 #[.int .i64 0, .int .i64 0, .slice none 0 0, .slice none 0 0] #[.int .i64 t.lo, .int .i64 t.hi, .slice A2 n2 c2, .slice A3 t.objs.length c3] ft_size rfl (by simp [Value.oneCell'])
              go_upto_region 16 with first | refine wpList_load_run rfl 27 (.tmp 67) rfl _ _ rfl hld ?_ | refine wpList_store_run rfl 27 (.tmp 16) (.tmp 68) rfl _ _ _ rfl rfl hst ?_
              obtain ⟨g16, hg16⟩ : ∃ g, g = wq.heap.size := ⟨_, rfl⟩
              rw [← hg16] at hG hXG ⊢
              generalize (wq.alloc (.cells #[.int .i64 0, .int .i64 0, .slice none 0 0, .slice none 0 0] 27)).setRow g16 #[.int .i64 t.lo, .int .i64 t.hi, .slice A2 n2 c2, .slice A3 t.objs.length c3] = wg at *
              dsimp only [Act.put]
              have hBg := hXG.heap hB
              have hTTg := hTT.ext hXG
              have hTxg := hTx.ext hXG
              have hEg := hE.trans hXG
              have hs1 := hr1.ext hXG
              have hs2 := hr2.ext hXG
              clear hst hld hra hXG hg16 hB hTT hTx hE hr1 hr2
              have hldt := run_loadAt_blk (P := Try.prog) wg g16 27 27 _ (0, 0) _ hG Try.underlying27 rfl ft_size
              go_wp2_with first | refine wpList_load_run rfl 27 (.tmp 16) rfl _ _ rfl hldt ?_
              refine (Offset_any t _ _ a wg (by rw [HN2.out]; exact hs1) hs2 hTI).mono ?_
              rintro en w6 ⟨o1, p1, rfl, HO1, hx6⟩
              have HO1' := Lib.hid HO1
              have hB6 := hx6.heap hBg
              have hTT6 := hTTg.ext hx6
              have hTx6 := hTxg.ext hx6
              have hE6 := hEg.trans hx6
              have hs16 := hs1.ext hx6
              have hs26 := hs2.ext hx6
              have hG6 := hx6.heap hG
              clear hldt hBg hTTg hTxg hEg hs1 hs2 hG hx6 HO1
              have hldt := run_loadAt_blk (P := Try.prog) w6 g16 27 27 _ (0, 0) _ hG6 Try.underlying27 rfl ft_size
              go_wp2_with first | refine wpList_load_run rfl 27 (.tmp 16) rfl _ _ rfl hldt ?_
              refine (refOffset_any t _ _ a w6 (by rw [HN2.out]; exact hs16) hs26 hTI).mono ?_
              rintro en w7 ⟨o2, p2, rfl, HO2, hx7⟩
              obtain ⟨rfl, rfl⟩ : o2 = o1 ∧ p2 = p1 := by
                have h := HO2.trans HO1'.out.symm
                injection h with h1 h2
                exact ⟨h1, h2⟩
              have hB7 := hx7.heap hB6
              have hTT7 := hTT6.ext hx7
              have hTx7 := hTx6.ext hx7
              have hE7 := hE6.trans hx7
              have hG7 := hx7.heap hG6
              obtain ⟨t0, t1, t2, t3⟩ := blkR hG7
              have ho : (o2 != o2) = false := by simp
              have hp : (p2 != p2) = false := by simp
              clear hldt hB6 hTT6 hTx6 hE6 hs16 hs26 hG6 hx7 HO2 HO1' hG7
              by_cases h3 : n2 < 300
              · have d3 : decide ((n2 : Int) < 300) = true := by simp; omega
                go_wp2_with fail
                go_roundw
                case rel => exact ⟨q + 1, by omega, by first | (with_reducible rfl) | go_num, hB7, hTT7, hTx7, hE7⟩
                case measure => simp [intOf]; omega
              · have d3 : decide ((n2 : Int) < 300) = false := by simp; omega
                go_wp2_with fail
                go_roundw
                case rel => exact ⟨q + 1, by omega, by first | (with_reducible rfl) | go_num, hB7, hTT7, hTx7, hE7⟩
                case measure => simp [intOf]; omega
            · have hqi : ¬ (q : Int) < (nx : Int) := by omega
              go_wp2_with fail
              go_roundw
              case rel => exact ⟨j + 1, by omega, by first | (with_reducible rfl) | go_num, hB, hTT, hTx, hE⟩
              case measure => simp [intOf]; omega
        · have hji : ¬ (j : Int) < 2 := by omega
          go_wp2_with fail
          go_roundw
          case rel => exact ⟨k + 1, by omega, by first | (with_reducible rfl) | go_num, hTT, hE⟩
          case measure => simp [intOf]; omega
    · have hki : ¬ (k : Int) < 2 := by omega
      go_wp2_with fail
      refine (known20_any wo).mono ?_
      rintro en w8 ⟨rfl, hx8⟩
      go_wp2_with fail
      go_ret
      exact ⟨rfl, hE.trans hx8⟩
end Go.Proofs.Ytokmbdeafjmcjaa
