/- The walk of CfiEncodes. -/
import Derived.Test.YtokmbdeafjmcjaaCfX
import Derived.Test.YtokmbdeafjmcjaaCfK
namespace Go.Proofs.Ytokmbdeafjmcjaa
open Go.RowKit
set_option linter.unusedVariables false
set_option linter.unusedSimpArgs false

theorem EncF_len (l : List FTab) : (EncF l).length ≤ 60000 := by
  unfold EncF
  split
  · split
    · assumption
    · simp
  · simp
set_option maxHeartbeats 40000000 in
set_option maxRecDepth 100000 in
theorem encodes20_walk (x y : Value) (l : List FTab) (nums : List Int) (w : World) (hx : FTabs w x l) (hI : ∀ t ∈ l, t.I) (hl : l.length ≤ 9223372036854775807) (hy : InI w y nums) (hnl : nums.length ≤ 9223372036854775807) :
    Calls Try.prog 3 #[x, y] w fun en w' => en = .returned (.bool true) ∧ Ext w w' := by
  obtain ⟨A, c, rfl⟩ := hx.form
  have HI := Lib.hid hI
  obtain ⟨nl, hnl'⟩ : ∃ n, n = l.length := ⟨_, rfl⟩
  have HX := Lib.hid hx
  rw [← hnl'] at hl HX ⊢
  have HNL := Lib.hid hnl'
  have HLL : Hid (l.length ≤ 9223372036854775807) := Lib.hid (by rw [← hnl']; exact hl)
  clear hx hI hnl'
  go_enter Try.func3, Try.ntmps3
  go_wp2_with fail
  go_loopw [5, 11] (fun n i wr => ∃ (k : Nat) (N : Int), k ≤ nl ∧ i = .int .i64 (k : Int) ∧ n = .int .i64 N ∧ Ext w wr) (fun _ i _ => nl - (intOf i).toNat)
  case atStart => exact ⟨0, 0, by omega, rfl, rfl, Ext.refl _⟩
  case round =>
    obtain ⟨k, N, hk, rfl, rfl, hX⟩ := hrel
    obtain ⟨wo, rfl⟩ : ∃ W : World, W = wr := ⟨_, rfl⟩
    by_cases hlt : k < nl
    · have hki : (k : Int) < (nl : Int) := by omega
      have hlt' : k < l.length := by rw [← HNL.out]; exact hlt
      obtain ⟨bb, oo, yv, zv, rfl, hra, hr1, hr2⟩ := (HX.out.ext hX).at_ hlt'
      generalize l[k] = t at *
      obtain ⟨A2, c2, rfl, _, _⟩ := hr1
      obtain ⟨A3, c3, rfl, _, _⟩ := hr2
      obtain ⟨n2, hn2⟩ : ∃ n, n = t.steps.length := ⟨_, rfl⟩
      obtain ⟨n3, hn3⟩ : ∃ n, n = t.objs.length := ⟨_, rfl⟩
      have hld := ftab_load hra
      rw [← hn2, ← hn3] at hld
      clear hra hn2 hn3
      obtain ⟨hst, hG, hXG⟩ := box_new (P := Try.prog) wo 27 #[.int .i64 0, .int .i64 0, .slice none 0 0, .slice none 0 0] #[.int .i64 t.lo, .int .i64 t.hi, .slice A2 n2 c2, .slice A3 n3 c3] ft_size rfl (by simp [Value.oneCell'])
      go_upto_region 5 with first | refine wpList_load_run rfl 27 (.tmp 13) rfl _ _ rfl hld ?_ | refine wpList_store_run rfl 27 (.tmp 7) (.tmp 14) rfl _ _ _ rfl rfl hst ?_
      obtain ⟨g7, hg7⟩ : ∃ g, g = wo.heap.size := ⟨_, rfl⟩
      rw [← hg7] at hG hXG ⊢
      generalize (wo.alloc (.cells #[.int .i64 0, .int .i64 0, .slice none 0 0, .slice none 0 0] 27)).setRow g7 #[.int .i64 t.lo, .int .i64 t.hi, .slice A2 n2 c2, .slice A3 n3 c3] = wg at *
      dsimp only [Act.put]
      obtain ⟨r0, r1, r2, r3⟩ := blkR hG
      have hXg := hX.trans hXG
      obtain ⟨N1, hN1⟩ : ∃ a, IntKind.i64.wrap (N + (n2 : Int)) = a := ⟨_, rfl⟩
      obtain ⟨N2, hN2⟩ : ∃ a, IntKind.i64.wrap (N1 + (n3 : Int)) = a := ⟨_, rfl⟩
      clear hst hld hG hXG hX hg7
      go_wp2_with fail
      go_roundw
      case rel => exact ⟨k + 1, N2, by omega, by first | (with_reducible rfl) | go_num, rfl, hXg⟩
      case measure => simp [intOf]; omega
    · have hki : ¬ (k : Int) < (nl : Int) := by omega
      by_cases h3 : 300 < N
      case pos =>
        have d3 : decide (300 < N) = true := by simp; omega
        go_wp2_with fail
        refine (known20_any wo).mono ?_
        rintro en w2 ⟨rfl, hx2⟩
        go_wp2_with fail
        go_ret
        exact ⟨rfl, hX.trans hx2⟩
      have d3 : decide (300 < N) = false := by simp; omega
      by_cases h20 : 20 < nl
      case pos =>
        have d20 : decide ((20 : Int) < (nl : Int)) = true := by simp; omega
        go_wp2_with fail
        refine (known20_any wo).mono ?_
        rintro en w2 ⟨rfl, hx2⟩
        go_wp2_with fail
        go_ret
        exact ⟨rfl, hX.trans hx2⟩
      have d20 : decide ((20 : Int) < (nl : Int)) = false := by simp; omega
      go_wp2_with fail
      refine (tables20_any y nums wo (hy.ext hX) hnl).mono ?_
      rintro en w1 ⟨y1, lx, lo1, rfl, hT1, hG1, hl1, hx1⟩
      have HR1 := Lib.hid (hG1.right hl1)
      have HI1 := Lib.hid (fun (t : FTab) (ht : t ∈ lx) => HR1.out.I ht)
      have HX1 := Lib.hid hT1.in_
      have hE := hX.trans hx1
      have hl1' : lx.length ≤ 9223372036854775807 := by omega
      have HL1 := Lib.hid hl1'
      clear hT1 hG1 hl1 hl1' hX hx1
      go_wp2_with fail
      refine (FRight_any l _ w1 (HX.out.ext hE) HI.out HLL.out).mono ?_
      rintro en w2 ⟨b1, rfl, hb1, hx2⟩
      have hE2 := hE.trans hx2
      go_wp2_with fail
      refine (refRight20_any l _ w2 (HX.out.ext hE2) HI.out HLL.out).mono ?_
      rintro en w3 ⟨b2, rfl, hb2, hx3⟩
      obtain rfl : b2 = b1 := by
        cases b1 <;> cases b2 <;> simp_all
      have hbb : (b2 == b2) = true := by simp
      have hE3 := hE2.trans hx3
      have hXT := hx2.trans hx3
      clear hb1 hb2 hE hE2 hx2 hx3
      go_wp2_with fail
      refine (FEncode_any l _ w3 (HX.out.ext hE3) HI.out HLL.out).mono ?_
      rintro en w4 ⟨u1, rfl, ho1, hx4⟩
      obtain ⟨bs, hbs⟩ : ∃ b, b = EncF l := ⟨_, rfl⟩
      have hbl : bs.length ≤ 4294967296 := by rw [hbs]; have := EncF_len l; omega
      rw [← hbs] at ho1
      have HBS := Lib.hid hbs
      have hE4 := hE3.trans hx4
      have hXT4 := hXT.trans hx4
      have hi1 : InB w4 u1 bs := ho1.inV
      clear hbs ho1 hE3 hXT hx4
      obtain ⟨U1, d1, hv1, _, _⟩ := id hi1
      obtain ⟨m1, hm1⟩ : ∃ n, n = bs.length := ⟨_, rfl⟩
      rw [← hm1] at hv1
      subst hv1
      clear hm1
      go_wp2_with fail
      refine (refEncode20_any l _ w4 (HX.out.ext hE4) HI.out HLL.out).mono ?_
      rintro en w5 ⟨u2, rfl, ho2, hx5⟩
      rw [← HBS.out] at ho2
      have hE5 := hE4.trans hx5
      have hXT5 := hXT4.trans hx5
      have hi2 : InB w5 u2 bs := ho2.inV
      have hi15 := hi1.ext hx5
      clear ho2 hE4 hXT4 hx5 hi1
      obtain ⟨U2, d2, hv2, _, _⟩ := id hi2
      obtain ⟨m2, hm2⟩ : ∃ n, n = bs.length := ⟨_, rfl⟩
      rw [← hm2] at hv2
      subst hv2
      clear hm2
      go_wp2_with fail
      refine (sameList_any _ _ bs bs w5 hi15 hi2 hbl hbl).mono ?_
      rintro en w6 ⟨rfl, n6, rfl⟩
      have hd : decide (bs = bs) = true := by simp
      rw [hd]
      have hXd := (Ext.refl w5).drewN n6
      have hE6 := hE5.trans hXd
      have hXT6 := hXT5.trans hXd
      clear hd hXd hi15 hi2 hbl hE5 hXT5 HBS
      generalize w5.drewN n6 = w6 at *
      go_wp2_with fail
      refine (FRight_any lx _ w6 (HX1.out.ext hXT6) HI1.out HL1.out).mono ?_
      rintro en w7 ⟨b7, rfl, hb7, hx7⟩
      obtain rfl : b7 = true := hb7.2 HR1.out
      have hE7 := hE6.trans hx7
      have hXT7 := hXT6.trans hx7
      clear hb7 hE6 hXT6 hx7
      go_wp2_with fail
      refine (FEncode_any lx _ w7 (HX1.out.ext hXT7) HI1.out HL1.out).mono ?_
      rintro en w8 ⟨u3, rfl, ho3, hx8⟩
      obtain ⟨cs, hcs⟩ : ∃ b, b = EncF lx := ⟨_, rfl⟩
      have hcl : cs.length ≤ 4294967296 := by rw [hcs]; have := EncF_len lx; omega
      rw [← hcs] at ho3
      have HCS := Lib.hid hcs
      have hE8 := hE7.trans hx8
      have hXT8 := hXT7.trans hx8
      have hi3 : InB w8 u3 cs := ho3.inV
      clear hcs ho3 hE7 hXT7 hx8
      obtain ⟨U3, d3', hv3, _, _⟩ := id hi3
      obtain ⟨m3, hm3⟩ : ∃ n, n = cs.length := ⟨_, rfl⟩
      rw [← hm3] at hv3
      subst hv3
      clear hm3
      go_wp2_with fail
      refine (refEncode20_any lx _ w8 (HX1.out.ext hXT8) HI1.out HL1.out).mono ?_
      rintro en w9 ⟨u4, rfl, ho4, hx9⟩
      rw [← HCS.out] at ho4
      have hE9 := hE8.trans hx9
      have hi4 : InB w9 u4 cs := ho4.inV
      have hi39 := hi3.ext hx9
      clear ho4 hE8 hXT8 hx9 hi3
      obtain ⟨U4, d4, hv4, _, _⟩ := id hi4
      obtain ⟨m4, hm4⟩ : ∃ n, n = cs.length := ⟨_, rfl⟩
      rw [← hm4] at hv4
      subst hv4
      clear hm4
      go_wp2_with fail
      refine (sameList_any _ _ cs cs w9 hi39 hi4 hcl hcl).mono ?_
      rintro en w10 ⟨rfl, n10, rfl⟩
      have hd : decide (cs = cs) = true := by simp
      rw [hd]
      have hE10 := hE9.trans ((Ext.refl w9).drewN n10)
      clear hd hi39 hi4 hcl hE9 HCS
      generalize w9.drewN n10 = w10 at *
      go_wp2_with fail
      refine (known20_any w10).mono ?_
      rintro en w11 ⟨rfl, hx11⟩
      go_wp2_with fail
      go_ret
      exact ⟨rfl, hE10.trans hx11⟩
end Go.Proofs.Ytokmbdeafjmcjaa
