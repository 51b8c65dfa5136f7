/- The walk of LocsEncodes. Printed by mkencodes19.py. -/
import Derived.Test.YtokmbdeafjmcjaaLcU
import Derived.Test.YtokmbdeafjmcjaaLcW
import Derived.Test.YtokmbdeafjmcjaaLcN
namespace Go.Proofs.Ytokmbdeafjmcjaa
open Go.RowKit
set_option linter.unusedVariables false
set_option linter.unusedSimpArgs false

set_option maxHeartbeats 40000000 in
set_option maxRecDepth 100000 in
theorem encodes19_walk (x y : Value) (l : List PTab) (nums : List Int) (w : World) (hx : PTabs w x l) (hI : ∀ t ∈ l, t.I) (hA : AddsIn l) (hl : l.length ≤ 9223372036854775807) (hy : InI w y nums) (hnl : nums.length ≤ 9223372036854775807) :
    Calls Try.prog 10 #[x, y] w fun en w' => en = .returned (.bool true) ∧ Ext w w' := by
  obtain ⟨A, c, rfl⟩ := hx.form
  have HI := Lib.hid hI
  have HA := Lib.hid hA
  obtain ⟨nl, hnl'⟩ : ∃ n, n = l.length := ⟨_, rfl⟩
  have HX := Lib.hid hx
  rw [← hnl'] at hl HX ⊢
  have HNL := Lib.hid hnl'
  have HLL : Hid (l.length ≤ 9223372036854775807) := Lib.hid (by rw [← hnl']; exact hl)
  clear hx hI hA hnl'
  go_enter Try.func10, Try.ntmps10
  go_wp2_with fail
  go_loopw [5, 13] (fun n i wr => ∃ (k : Nat) (N : Int), k ≤ nl ∧ i = .int .i64 (k : Int) ∧ n = .int .i64 N ∧ Ext w wr) (fun _ i _ => nl - (intOf i).toNat)
  case atStart => exact ⟨0, 0, by omega, rfl, rfl, Ext.refl _⟩
  case round =>
    obtain ⟨k, N, hk, rfl, rfl, hX⟩ := hrel
    obtain ⟨wo, rfl⟩ : ∃ W : World, W = wr := ⟨_, rfl⟩
    by_cases hlt : k < nl
    · have hki : (k : Int) < (nl : Int) := by omega
      have hlt' : k < l.length := by rw [← HNL.out]; exact hlt
      obtain ⟨bb, oo, yv, rfl, hra, hr1⟩ := (HX.out.ext hX).at_ hlt'
      have htI := HI.out _ (List.getElem_mem hlt')
      generalize l[k] = t at *
      obtain ⟨A2, c2, rfl⟩ := hr1.form
      obtain ⟨n2, hn2⟩ : ∃ n, n = t.ranges.length := ⟨_, rfl⟩
      have hn2l : n2 ≤ 9223372036854775807 := by rw [hn2]; exact htI.len
      have hld := ptab_load hra
      rw [← hn2] at hld hr1
      have HN2 := Lib.hid hn2
      have HR1 := Lib.hid hr1
      clear hra hn2 hr1 htI
      obtain ⟨hst, hG, hXG⟩ := box_new (P := Try.prog) wo 66 #[.int .i64 0, .int .i64 0, .slice none 0 0] #[.int .i64 t.lo, .int .i64 t.hi, .slice A2 n2 c2] pl_size rfl (by simp [Value.oneCell'])
      go_upto_region 5 with first | refine wpList_load_run rfl 66 (.tmp 15) rfl _ _ rfl hld ?_ | refine wpList_store_run rfl 66 (.tmp 7) (.tmp 16) rfl _ _ _ rfl rfl hst ?_
      obtain ⟨g7, hg7⟩ : ∃ g, g = wo.heap.size := ⟨_, rfl⟩
      rw [← hg7] at hG hXG ⊢
      generalize (wo.alloc (.cells #[.int .i64 0, .int .i64 0, .slice none 0 0] 66)).setRow g7 #[.int .i64 t.lo, .int .i64 t.hi, .slice A2 n2 c2] = wg at *
      dsimp only [Act.put]
      obtain ⟨r0, r1, r2⟩ := blkT hG
      have hXg := hX.trans hXG
      have HRW : Hid (RngsIn wg (.slice A2 n2 c2) t.ranges) := Lib.hid (HR1.out.ext hXG)
      obtain ⟨N1, hN1⟩ : ∃ a, IntKind.i64.wrap (N + (n2 : Int)) = a := ⟨_, rfl⟩
      clear hst hld hG hXG hX hg7
      go_wp2_with fail
      clear r0 r1 r2 hN1
      go_loopw [5, 25] (fun m i wr => ∃ (q : Nat) (M : Int), q ≤ n2 ∧ i = .int .i64 (q : Int) ∧ m = .int .i64 M ∧ Ext wg wr) (fun _ i _ => n2 - (intOf i).toNat)
      case atStart => exact ⟨0, N1, by omega, rfl, rfl, Ext.refl _⟩
      case round =>
        obtain ⟨q, M, hq, rfl, rfl, hXq⟩ := hrel
        obtain ⟨wq, rfl⟩ : ∃ W : World, W = wr := ⟨_, rfl⟩
        by_cases hlq : q < n2
        · have hqi : (q : Int) < (n2 : Int) := by omega
          have hlq' : q < t.ranges.length := by rw [← HN2.out]; exact hlq
          obtain ⟨b6, o6, yr, e6, hrr, hrp⟩ := (HRW.out.ext hXq).at_ (j := q) hlq'
          subst e6
          generalize t.ranges[q] = r at *
          obtain ⟨A5, c5, rfl, _, _⟩ := hrp
          obtain ⟨n5, hn5⟩ : ∃ n, n = r.places.length := ⟨_, rfl⟩
          have hld := rng_load hrr
          rw [← hn5] at hld
          clear hrr hn5
          obtain ⟨hst, hG, hXG⟩ := box_new (P := Try.prog) wq 69 #[.int .i64 0, .int .i64 0, .int .i64 0, .int .i64 0, .int .i64 0, .slice none 0 0] #[.int .i64 r.ctx, .int .i64 r.var, .int .i64 r.piece, .int .i64 r.lo, .int .i64 r.hi, .slice A5 n5 c5] rg_size rfl (by simp [Value.oneCell'])
          go_upto_region 9 with first | refine wpList_load_run rfl 69 (.tmp 27) rfl _ _ rfl hld ?_ | refine wpList_store_run rfl 69 (.tmp 9) (.tmp 28) rfl _ _ _ rfl rfl hst ?_
          obtain ⟨g9, hg9⟩ : ∃ g, g = wq.heap.size := ⟨_, rfl⟩
          rw [← hg9] at hG hXG ⊢
          generalize (wq.alloc (.cells #[.int .i64 0, .int .i64 0, .int .i64 0, .int .i64 0, .int .i64 0, .slice none 0 0] 69)).setRow g9 #[.int .i64 r.ctx, .int .i64 r.var, .int .i64 r.piece, .int .i64 r.lo, .int .i64 r.hi, .slice A5 n5 c5] = wv at *
          dsimp only [Act.put]
          obtain ⟨r0, r1, r2, r3, r4, r5⟩ := blk6 hG
          have hXv := hXq.trans hXG
          obtain ⟨M1, hM1⟩ : ∃ a, IntKind.i64.wrap (M + (n5 : Int)) = a := ⟨_, rfl⟩
          clear hst hld hG hXG hXq hg9
          go_wp2_with fail
          go_roundw
          case rel => exact ⟨q + 1, M1, by omega, by first | (with_reducible rfl) | go_num, rfl, hXv⟩
          case measure => simp [intOf]; omega
        · have hqi : ¬ (q : Int) < (n2 : Int) := by omega
          have hXn := hXg.trans hXq
          clear hXg hXq
          go_wp2_with fail
          go_roundw
          case rel => exact ⟨k + 1, M, by omega, by first | (with_reducible rfl) | go_num, rfl, hXn⟩
          case measure => simp [intOf]; omega
    · have hki : ¬ (k : Int) < (nl : Int) := by omega
      by_cases h3 : 300 < N
      case pos =>
        have d3 : decide (300 < N) = true := by simp; omega
        go_wp2_with fail
        refine (known19_any wo).mono ?_
        rintro en w2 ⟨rfl, hx2⟩
        go_wp2_with fail
        go_ret
        exact ⟨rfl, hX.trans hx2⟩
      have d3 : decide (300 < N) = false := by simp; omega
      by_cases h20 : 20 < nl
      case pos =>
        have d20 : decide ((20 : Int) < (nl : Int)) = true := by simp; omega
        go_wp2_with fail
        refine (known19_any wo).mono ?_
        rintro en w2 ⟨rfl, hx2⟩
        go_wp2_with fail
        go_ret
        exact ⟨rfl, hX.trans hx2⟩
      have d20 : decide ((20 : Int) < (nl : Int)) = false := by simp; omega
      go_wp2_with fail
      refine (lists19_any y nums wo (hy.ext hX) hnl).mono ?_
      rintro en w1 ⟨y1, lx, rfl, hT1, hML, hx1⟩
      have HR1 := Lib.hid hML.right
      have HA1 := Lib.hid hML.adds
      have HI1 := Lib.hid (fun (t : PTab) (ht : t ∈ lx) => hML.I ht)
      have HX1 := Lib.hid hT1.in_
      have hE := hX.trans hx1
      have hl1' : lx.length ≤ 9223372036854775807 := by have := hML.few; omega
      have HL1 := Lib.hid hl1'
      clear hT1 hML hl1' hX hx1
      go_wp2_with fail
      refine (PRight_any l _ w1 (HX.out.ext hE) HI.out HLL.out).mono ?_
      rintro en w2 ⟨b1, rfl, hb1, hx2⟩
      have hE2 := hE.trans hx2
      go_wp2_with fail
      refine (refRight19_any l _ w2 (HX.out.ext hE2) HI.out HLL.out).mono ?_
      rintro en w3 ⟨b2, rfl, hb2, hx3⟩
      obtain rfl : b2 = b1 := by
        cases b1 <;> cases b2 <;> simp_all
      have hbb : (b2 == b2) = true := by simp
      have hE3 := hE2.trans hx3
      have hXT := hx2.trans hx3
      clear hb1 hb2 hE hE2 hx2 hx3
      go_wp2_with fail
      refine (PEncode_any l _ w3 (HX.out.ext hE3) HI.out HA.out HLL.out).mono ?_
      rintro en w4 ⟨u1, rfl, ho1, hx4⟩
      obtain ⟨bs, hbs⟩ : ∃ b, b = EncP l := ⟨_, rfl⟩
      have hbl : bs.length ≤ 4294967296 := by rw [hbs]; have := EncP_len l; omega
      rw [← hbs] at ho1
      have HBS := Lib.hid hbs
      have hE4 := hE3.trans hx4
      have hXT4 := hXT.trans hx4
      have hi1 : InB w4 u1 bs := ho1.inV
      clear hbs ho1 hE3 hXT hx4
      obtain ⟨U1, d1, hv1, _, _⟩ := id hi1
      obtain ⟨m1, hm1⟩ : ∃ n, n = bs.length := ⟨_, rfl⟩
      rw [← hm1] at hv1
      subst hv1
      clear hm1
      go_wp2_with fail
      refine (refEncode19_any l _ w4 (HX.out.ext hE4) HI.out HA.out HLL.out).mono ?_
      rintro en w5 ⟨u2, rfl, ho2, hx5⟩
      rw [← HBS.out] at ho2
      have hE5 := hE4.trans hx5
      have hXT5 := hXT4.trans hx5
      have hi2 : InB w5 u2 bs := ho2.inV
      have hi15 := hi1.ext hx5
      clear ho2 hE4 hXT4 hx5 hi1
      obtain ⟨U2, d2, hv2, _, _⟩ := id hi2
      obtain ⟨m2, hm2⟩ : ∃ n, n = bs.length := ⟨_, rfl⟩
      rw [← hm2] at hv2
      subst hv2
      clear hm2
      go_wp2_with fail
      refine (sameList_any _ _ bs bs w5 hi15 hi2 hbl hbl).mono ?_
      rintro en w6 ⟨rfl, n6, rfl⟩
      have hd : decide (bs = bs) = true := by simp
      rw [hd]
      have hXd := (Ext.refl w5).drewN n6
      have hE6 := hE5.trans hXd
      have hXT6 := hXT5.trans hXd
      clear hd hXd hi15 hi2 hbl hE5 hXT5 HBS
      generalize w5.drewN n6 = w6 at *
      go_wp2_with fail
      refine (PRight_any lx _ w6 (HX1.out.ext hXT6) HI1.out HL1.out).mono ?_
      rintro en w7 ⟨b7, rfl, hb7, hx7⟩
      obtain rfl : b7 = true := hb7.2 HR1.out
      have hE7 := hE6.trans hx7
      have hXT7 := hXT6.trans hx7
      clear hb7 hE6 hXT6 hx7
      go_wp2_with fail
      refine (PEncode_any lx _ w7 (HX1.out.ext hXT7) HI1.out HA1.out HL1.out).mono ?_
      rintro en w8 ⟨u3, rfl, ho3, hx8⟩
      obtain ⟨cs, hcs⟩ : ∃ b, b = EncP lx := ⟨_, rfl⟩
      have hcl : cs.length ≤ 4294967296 := by rw [hcs]; have := EncP_len lx; omega
      rw [← hcs] at ho3
      have HCS := Lib.hid hcs
      have hE8 := hE7.trans hx8
      have hXT8 := hXT7.trans hx8
      have hi3 : InB w8 u3 cs := ho3.inV
      clear hcs ho3 hE7 hXT7 hx8
      obtain ⟨U3, d3', hv3, _, _⟩ := id hi3
      obtain ⟨m3, hm3⟩ : ∃ n, n = cs.length := ⟨_, rfl⟩
      rw [← hm3] at hv3
      subst hv3
      clear hm3
      go_wp2_with fail
      refine (refEncode19_any lx _ w8 (HX1.out.ext hXT8) HI1.out HA1.out HL1.out).mono ?_
      rintro en w9 ⟨u4, rfl, ho4, hx9⟩
      rw [← HCS.out] at ho4
      have hE9 := hE8.trans hx9
      have hi4 : InB w9 u4 cs := ho4.inV
      have hi39 := hi3.ext hx9
      clear ho4 hE8 hXT8 hx9 hi3
      obtain ⟨U4, d4, hv4, _, _⟩ := id hi4
      obtain ⟨m4, hm4⟩ : ∃ n, n = cs.length := ⟨_, rfl⟩
      rw [← hm4] at hv4
      subst hv4
      clear hm4
      go_wp2_with fail
      refine (sameList_any _ _ cs cs w9 hi39 hi4 hcl hcl).mono ?_
      rintro en w10 ⟨rfl, n10, rfl⟩
      have hd : decide (cs = cs) = true := by simp
      rw [hd]
      have hE10 := hE9.trans ((Ext.refl w9).drewN n10)
      clear hd hi39 hi4 hcl hE9 HCS
      generalize w9.drewN n10 = w10 at *
      go_wp2_with fail
      refine (known19_any w10).mono ?_
      rintro en w11 ⟨rfl, hx11⟩
      go_wp2_with fail
      go_ret
      exact ⟨rfl, hE10.trans hx11⟩
end Go.Proofs.Ytokmbdeafjmcjaa
