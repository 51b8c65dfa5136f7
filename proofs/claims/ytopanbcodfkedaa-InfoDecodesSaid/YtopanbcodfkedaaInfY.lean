/- The walk of InfoEncodes. -/
import Derived.Test.YtopanbcodfkedaaInfX
import Derived.Test.YtopanbcodfkedaaInfP
namespace Go.Proofs.Ytopanbcodfkedaa
open Go.RowKit
set_option linter.unusedVariables false
set_option linter.unusedSimpArgs false

theorem EncE_len (l : List Ent) : (EncE l).1.length ≤ 60000 ∧ (EncE l).2.length ≤ 60000 := by
  unfold EncE
  split
  · split
    · simp
    · simp only
      omega
  · simp
set_option maxHeartbeats 40000000 in
set_option maxRecDepth 100000 in
theorem encodesLaw_walk (x y : Value) (l : List Ent) (nums : List Int) (w : World) (hx : Ents w x l) (hI : ∀ e ∈ l, e.I) (hL : l.length ≤ 9223372036854775807) (hy : InI w y nums) (hnl : nums.length ≤ 9223372036854775807) (hN : ∀ q ∈ nums, I64 q) : Calls Try.prog 3 #[x, y] w (OneOf (.bool true) w) := by
  obtain ⟨A, c, rfl⟩ := hx.form
  obtain ⟨n, hn⟩ : ∃ n, n = l.length := ⟨_, rfl⟩
  have hnn : n ≤ 9223372036854775807 := by rw [hn]; exact hL
  rw [← hn] at hx ⊢
  have HN := Lib.hid hn
  have HX := Lib.hid hx
  have HI := Lib.hid hI
  have HY := Lib.hid hy
  have HNL := Lib.hid hnl
  have HNI := Lib.hid hN
  have HL := Lib.hid hL
  clear hn hx hI hy hnl hN hL
  go_enter Try.func3, Try.ntmps3
  go_wp2_with fail
  go_loopw [5, 19] (fun s i wr => ∃ (k : Int) (j : Nat), s = .int .i64 k ∧ i = .int .i64 (j : Int) ∧ j ≤ n ∧ Ext w wr) (fun _ i _ => n - (intOf i).toNat)
  case atStart => exact ⟨0, 0, rfl, rfl, by omega, Ext.refl _⟩
  case round =>
    obtain ⟨k, j, rfl, rfl, hj, hX⟩ := hrel
    obtain ⟨wo, rfl⟩ : ∃ wo : World, wo = wr := ⟨_, rfl⟩
    by_cases hlt : j < n
    · have hij : (j : Int) < (n : Int) := by omega
      have hlt' : j < l.length := by rw [← HN.out]; exact hlt
      obtain ⟨bb, oo, y, hAe, hra, hat⟩ := (HX.out.ext hX).at_ hlt'
      subst hAe
      generalize l[j] = e at *
      obtain ⟨A2, c2, rfl, _⟩ := id hat
      obtain ⟨n2, hn2⟩ : ∃ n, n = e.attrs.length := ⟨_, rfl⟩
      have hld := ent_load hra
      rw [← hn2] at hld
      clear hn2 hat
      obtain ⟨hst, hG, hXG⟩ := box_new (P := Try.prog) wo 26 #[.int .i64 0, .int .i64 0, .slice none 0 0] #[.int .i64 e.depth, .int .i64 e.tag, .slice A2 n2 c2] en_size rfl (by simp [Value.oneCell'])
      go_upto_region 5 with first | refine wpList_load_run rfl 26 (.tmp 21) rfl _ _ rfl hld ?_ | refine wpList_store_run rfl 26 (.tmp 7) (.tmp 22) rfl _ _ _ rfl rfl hst ?_
      obtain ⟨g7, hg7⟩ : ∃ g, g = wo.heap.size := ⟨_, rfl⟩
      rw [← hg7] at hG hXG ⊢
      generalize (wo.alloc (.cells #[.int .i64 0, .int .i64 0, .slice none 0 0] 26)).setRow g7 #[.int .i64 e.depth, .int .i64 e.tag, .slice A2 n2 c2] = wg at *
      try dsimp only [Act.put]
      obtain ⟨r0, r1, r2⟩ := blk3 hG
      have hXX := hX.trans hXG
      clear hst hld hra hXG hX hg7 hG
      go_wp2_with fail
      go_roundw
      case rel => exact ⟨_, j + 1, rfl, by first | (with_reducible rfl) | go_num, by omega, hXX⟩
      case measure => simp [intOf]; omega
    · have hij : ¬ (j : Int) < (n : Int) := by omega
      by_cases h3 : 300 < k
      · have d3 : decide (300 < k) = true := by simpa using h3
        go_wp2_with fail
        refine (known21_any wo).mono ?_
        rintro en w8 ⟨rfl, hx8⟩
        have hX8 := hX.trans hx8
        clear hx8
        go_wp2_with fail
        go_ret
        exact ⟨rfl, hX8⟩
      have d3 : decide (300 < k) = false := by simpa using h3
      obtain ⟨AY, cY, hyv, _, _⟩ := id HY.out
      subst hyv
      go_wp2_with fail
      refine (ltree_any _ nums wo (HY.out.ext hX) HNL.out HNI.out).mono ?_
      rintro en w1 ⟨tv, t, rfl, hT, HTG, htl, hx1⟩
      have hTin := hT.in_
      obtain ⟨A1, c1, hv1⟩ := hTin.form
      obtain ⟨nt, hnt⟩ : ∃ n, n = t.length := ⟨_, rfl⟩
      rw [← hnt] at hv1
      subst hv1
      have HTI := Lib.hid hTin
      have HTT := Lib.hid HTG
      have hX1 := hX.trans hx1
      have HTL : Hid (t.length ≤ 9223372036854775807) := Lib.hid (by omega)
      clear hT hTin HTG hx1 hnt htl
      go_wp2_with fail
      refine (Encode_any l _ w1 (HX.out.ext hX1) HI.out HL.out).mono ?_
      rintro en w2 ⟨y1, z1, rfl, hy1, hz1, hx2⟩
      have hX2 := hX1.trans hx2
      have hTB := HTI.out.ext hx2
      clear hX1 hx2
      go_wp2_with fail
      refine (refEncode_any l _ w2 (HX.out.ext hX2) HI.out HL.out).mono ?_
      rintro en w3 ⟨y2, z2, rfl, hy2, hz2, hx3⟩
      have hX3 := hX2.trans hx3
      have hTC := hTB.ext hx3
      have hy1 := hy1.ext hx3
      have hz1 := hz1.ext hx3
      clear hX2 hx3 hTB
      go_wp2_with fail
      refine (Encode_any t _ w3 hTC HTT.out.int HTL.out).mono ?_
      rintro en w4 ⟨y3, z3, rfl, hy3, hz3, hx4⟩
      have hX4 := hX3.trans hx4
      have hTD := hTC.ext hx4
      have hy1 := hy1.ext hx4
      have hz1 := hz1.ext hx4
      have hy2 := hy2.ext hx4
      have hz2 := hz2.ext hx4
      clear hX3 hx4 hTC
      go_wp2_with fail
      refine (refEncode_any t _ w4 hTD HTT.out.int HTL.out).mono ?_
      rintro en w5 ⟨y4, z4, rfl, hy4, hz4, hx5⟩
      have hX5 := hX4.trans hx5
      have HTE : Hid (Ents w5 (.slice A1 nt c1) t) := Lib.hid (hTD.ext hx5)
      have i1 : InB w5 y1 (EncE l).1 := (hy1.ext hx5).inV
      have i2 : InB w5 y2 (EncE l).1 := (hy2.ext hx5).inV
      have i3 : InB w5 z1 (EncE l).2 := (hz1.ext hx5).inV
      have i4 : InB w5 z2 (EncE l).2 := (hz2.ext hx5).inV
      have i5 : InB w5 y3 (EncE t).1 := (hy3.ext hx5).inV
      have i6 : InB w5 y4 (EncE t).1 := hy4.inV
      have i7 : InB w5 z3 (EncE t).2 := (hz3.ext hx5).inV
      have i8 : InB w5 z4 (EncE t).2 := hz4.inV
      have hle := EncE_len l
      have hte := EncE_len t
      generalize EncE l = ll at *
      generalize EncE t = tt at *
      obtain ⟨la, lb⟩ := ll
      obtain ⟨ta, tb⟩ := tt
      dsimp only at i1 i2 i3 i4 i5 i6 i7 i8 hle hte
      have HSM : Hid (∀ (u v : Value) (m : List UInt8) (W W' : World), InB W u m → InB W v m → m.length ≤ 60000 → Ext W W' → Calls Try.prog 13 #[u, v] W' (OneOf (.bool true) W')) := Lib.hid (fun u v m W W' h1 h2 h3 h4 => by
        refine (sameList_any u v m m W' (h1.ext h4) (h2.ext h4) (by omega) (by omega)).mono ?_
        rintro en w' ⟨rfl, k, rfl⟩
        exact ⟨by simp, (Ext.refl _).drewN k⟩)
      clear hX4 hx5 hTD hy1 hy2 hy3 hy4 hz1 hz2 hz3 hz4
      go_wp2_with fail
      refine (Right_any l _ w5 (HX.out.ext hX5) HI.out HL.out).mono ?_
      rintro en w6 ⟨r1, rfl, hr1, hx6⟩
      go_wp2_with fail
      refine (refRight_any l _ w6 ((HX.out.ext hX5).ext hx6) HI.out HL.out).mono ?_
      rintro en w7 ⟨r2, rfl, hr2, hx7⟩
      have hrr : r1 = r2 := by
        cases r1 with
        | true => exact (hr2.2 (hr1.1 rfl)).symm
        | false =>
          cases r2 with
          | true => have := hr1.2 (hr2.1 rfl); cases this
          | false => rfl
      subst hrr
      have hq1 : (r1 == r1) = true := by simp
      have hq2 : decide (r1 = r1) = true := by simp
      have hX7 := hx6.trans hx7
      clear hr1 hr2 hx6 hx7
      go_wp2_with fail
      refine (HSM.out _ _ la w5 w7 i1 i2 hle.1 hX7).mono ?_
      rintro en wa ⟨rfl, hxa⟩
      have hXa := hX7.trans hxa
      clear hX7 hxa
      go_wp2_with fail
      refine (HSM.out _ _ lb w5 wa i3 i4 hle.2 hXa).mono ?_
      rintro en wb ⟨rfl, hxb⟩
      have hXb := hXa.trans hxb
      clear hXa hxb
      go_wp2_with fail
      refine (Right_any t _ wb (HTE.out.ext hXb) HTT.out.int HTL.out).mono ?_
      rintro en wc ⟨r3, rfl, hr3, hxc⟩
      have hr3t : r3 = true := hr3.2 HTT.out.right
      subst hr3t
      have hXc := hXb.trans hxc
      clear hXb hxc hr3
      go_wp2_with fail
      refine (HSM.out _ _ ta w5 wc i5 i6 hte.1 hXc).mono ?_
      rintro en wd ⟨rfl, hxd⟩
      have hXd := hXc.trans hxd
      clear hXc hxd
      go_wp2_with fail
      refine (HSM.out _ _ tb w5 wd i7 i8 hte.2 hXd).mono ?_
      rintro en we ⟨rfl, hxe⟩
      have hXe := hXd.trans hxe
      clear hXd hxe
      go_wp2_with fail
      refine (known21_any we).mono ?_
      rintro en wf ⟨rfl, hxf⟩
      have hXf := hX5.trans (hXe.trans hxf)
      clear hXe hxf
      go_wp2_with fail
      go_ret
      exact ⟨rfl, hXf⟩
end Go.Proofs.Ytopanbcodfkedaa
