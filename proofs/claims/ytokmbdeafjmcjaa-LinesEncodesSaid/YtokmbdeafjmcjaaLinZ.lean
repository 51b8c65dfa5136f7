/- LinesEncodes: the walk. -/
import Derived.Test.YtokmbdeafjmcjaaLinY
import Derived.Test.YtokmbdeafjmcjaaLinQ
namespace Go.Proofs.Ytokmbdeafjmcjaa
open Go.RowKit
set_option linter.unusedVariables false

theorem EncL_len (l : List LTab) : (EncL l).length ≤ 60000 := by
  unfold EncL
  split
  · split
    · assumption
    · simp
  · simp
set_option maxHeartbeats 40000000 in
set_option maxRecDepth 100000 in
theorem encodes18_walk (v x : Value) (l : List LTab) (nums : List Int) (w : World) (hv : LTabs w v l) (hI : ∀ t ∈ l, t.I) (hl : l.length ≤ 9223372036854775807) (hx : InI w x nums) : Calls Try.prog 6 #[v, x] w fun en w' => en = .returned (.bool true) ∧ Ext w w' := by
  obtain ⟨A, c, rfl⟩ := hv.form
  obtain ⟨A0, c0, rfl, _, _⟩ := id hx
  have HV := Lib.hid hv
  have HI := Lib.hid hI
  have HXI := Lib.hid hx
  clear hv hI hx
  go_enter Try.func6, Try.ntmps6
  go_wp2_with fail
  go_loopw [5, 11] (fun n i wr => ∃ (j : Nat) (N : Int), j ≤ l.length ∧ i = .int .i64 (j : Int) ∧ n = .int .i64 N ∧ Ext w wr) (fun _ i _ => l.length - (intOf i).toNat)
  case atStart => exact ⟨0, 0, by omega, rfl, rfl, Ext.refl _⟩
  case round =>
    obtain ⟨j, N, hj, rfl, rfl, hX⟩ := hrel
    obtain ⟨wo, rfl⟩ : ∃ wo : World, wo = wr := ⟨_, rfl⟩
    by_cases hlt : j < l.length
    · have hij : (j : Int) < (l.length : Int) := by omega
      obtain ⟨bb, oo, y, rfl, hra, hrows⟩ := (HV.out.ext hX).at_ hlt
      have HTI := Lib.hid (HI.out _ (List.getElem_mem hlt))
      generalize l[j] = t at *
      have hlen := HTI.out.len
      obtain ⟨A2, c2, rfl, _, _⟩ := id hrows
      have hld := ltab_load hra
      obtain ⟨hst, hG, hXG⟩ := box_new (P := Try.prog) wo 46 #[.int .i64 0, .int .i64 0, .slice none 0 0] #[.int .i64 t.lo, .int .i64 t.hi, .slice A2 t.rows.length c2] lt_size rfl (by simp [Value.oneCell'])
      go_upto_region 5 with first | refine wpList_load_run rfl 46 (.tmp 13) rfl _ _ rfl hld ?_ | refine wpList_store_run rfl 46 (.tmp 7) (.tmp 14) rfl _ _ _ rfl rfl hst ?_
      obtain ⟨g, hg⟩ : ∃ g, g = wo.heap.size := ⟨_, rfl⟩
      rw [← hg] at hG hXG ⊢
      generalize (wo.alloc (.cells #[.int .i64 0, .int .i64 0, .slice none 0 0] 46)).setRow g #[.int .i64 t.lo, .int .i64 t.hi, .slice A2 t.rows.length c2] = wg at *
      dsimp only [Act.put]
      obtain ⟨r0, r1, r2⟩ := blkT hG
      have hXX := hX.trans hXG
      clear hst hld hra hG hXG hX hg hrows
      go_wp2_with fail
      go_roundw
      case rel => exact ⟨j + 1, _, by omega, by first | (with_reducible rfl) | go_num, by first | (with_reducible rfl) | rfl | go_num, hXX⟩
      case measure => simp [intOf]; omega
    · have hij : ¬ (j : Int) < (l.length : Int) := by omega
      by_cases h300 : 300 < N
      case pos =>
        have d1 : decide (300 < N) = true := by simpa using h300
        go_wp2_with fail
        refine (known18_any wo).mono ?_
        rintro en w8 ⟨rfl, hx8⟩
        go_wp2_with fail
        go_ret
        exact ⟨rfl, hX.trans hx8⟩
      have d1 : decide (300 < N) = false := by simpa using h300
      by_cases h20 : 20 < l.length
      case pos =>
        have d2 : decide ((20 : Int) < (l.length : Int)) = true := by simp; omega
        go_wp2_with fail
        refine (known18_any wo).mono ?_
        rintro en w8 ⟨rfl, hx8⟩
        go_wp2_with fail
        go_ret
        exact ⟨rfl, hX.trans hx8⟩
      have d2 : decide ((20 : Int) < (l.length : Int)) = false := by simp; omega
      go_wp2_with fail
      refine (tables_any _ nums wo (HXI.out.ext hX)).mono ?_
      rintro en w1 ⟨y1, lx, rfl, hT, hR, hl4, hN, hx1⟩
      obtain ⟨A1, c1, rfl⟩ := hT.in_.form
      have HT := Lib.hid hT
      have HR := Lib.hid hR
      have hX1 := hX.trans hx1
      clear hT hR hx1
      go_wp2_with fail
      refine (Right_any l _ w1 (HV.out.ext hX1) HI.out hl).mono ?_
      rintro en w2 ⟨b2, rfl, hb2, hx2⟩
      go_wp2_with fail
      refine (refRight18_any l _ w2 (HV.out.ext (hX1.trans hx2)) HI.out hl).mono ?_
      rintro en w3 ⟨b3, rfl, hb3, hx3⟩
      have e23 : b3 = b2 := by
        cases b2 <;> cases b3 <;> simp_all
      subst e23
      have hx13 := hx2.trans hx3
      clear hb2 hb3 hx2 hx3
      have hbb : (b3 == b3) = true := by simp
      go_wp2_with fail
      refine (Encode_any l _ w3 (HV.out.ext (hX1.trans hx13)) HI.out hl).mono ?_
      rintro en w4 ⟨y4, rfl, ho4, hx4⟩
      have hx14 := hx13.trans hx4
      go_wp2_with fail
      refine (refEncode18_any l _ w4 (HV.out.ext (hX1.trans hx14)) HI.out hl).mono ?_
      rintro en w5 ⟨y5, rfl, ho5, hx5⟩
      go_wp2_with fail
      have hle := EncL_len l
      refine (sameList_any _ _ (EncL l) (EncL l) w5 (ho4.ext hx5).inV ho5.inV (by omega) (by omega)).mono ?_
      rintro en w6 ⟨rfl, n6, rfl⟩
      have hd6 : decide (EncL l = EncL l) = true := by simp
      rw [hd6]
      have hX6 : Ext w1 (w5.drewN n6) := (hx14.trans hx5).drewN n6
      have hIX : ∀ t ∈ lx, t.I := fun t ht => HR.out.I ht
      have hlx : lx.length ≤ 9223372036854775807 := by omega
      have HIX := Lib.hid hIX
      clear hd6 ho4 ho5 hx4 hx5 hx13 hx14 hIX hle
      generalize w5.drewN n6 = w6 at *
      go_wp2_with fail
      refine (Right_any lx _ w6 (HT.out.in_.ext hX6) HIX.out hlx).mono ?_
      rintro en w7 ⟨b7, rfl, hb7, hx7⟩
      obtain rfl : b7 = true := hb7.2 HR.out
      have hX7 := hX6.trans hx7
      clear hb7 hx7 hX6
      go_wp2_with fail
      refine (Encode_any lx _ w7 (HT.out.in_.ext hX7) HIX.out hlx).mono ?_
      rintro en w8 ⟨y8, rfl, ho8, hx8⟩
      have hX8 := hX7.trans hx8
      go_wp2_with fail
      refine (refEncode18_any lx _ w8 (HT.out.in_.ext hX8) HIX.out hlx).mono ?_
      rintro en w9 ⟨y9, rfl, ho9, hx9⟩
      have hle := EncL_len lx
      go_wp2_with fail
      refine (sameList_any _ _ (EncL lx) (EncL lx) w9 (ho8.ext hx9).inV ho9.inV (by omega) (by omega)).mono ?_
      rintro en w10 ⟨rfl, n10, rfl⟩
      have hd10 : decide (EncL lx = EncL lx) = true := by simp
      rw [hd10]
      have hX10 : Ext w (w9.drewN n10) := (hX1.trans (hX8.trans hx9)).drewN n10
      clear hd10 ho8 ho9 hx8 hx9 hX7 hX8
      generalize w9.drewN n10 = w10 at *
      go_wp2_with fail
      refine (known18_any w10).mono ?_
      rintro en w11 ⟨rfl, hx11⟩
      go_wp2_with fail
      go_ret
      exact ⟨rfl, hX10.trans hx11⟩
end Go.Proofs.Ytokmbdeafjmcjaa
