/- The specification's reader: lists: the walk. -/
import Derived.Test.YtokmbdeafjmcjaaLcZ
namespace Go.Proofs.Ytokmbdeafjmcjaa
open Go.RowKit
set_option linter.unusedVariables false
set_option linter.unusedSimpArgs false

theorem Kept.g1 {gr : Nat} {w W : World} (h : Kept w.heap.size [gr] w W) : w.grownBy W (some gr) := ⟨h.os, h.tape, h.output, h.size, fun i hi hn => h.block i hi (fun hm => by
  simp only [List.mem_cons, List.not_mem_nil, or_false] at hm
  exact hn (by rw [hm]))⟩
theorem Kept.rngsR {b0 gr : Nat} {x : Value} {s : RS18} {w W : World} {v : Value} {l : List Rng} (h : Kept w.heap.size [gr] w W) (ho : RngsOwn b0 w v l) (hr : RBlk gr x s w) : RngsOwn b0 W v l := by
  obtain ⟨zs, h1, h2, h3⟩ := ho
  exact ⟨zs, h1, h.own1 h2 hr (by decide), fun z hz => h.own1 (h3 z hz) hr (by decide)⟩
theorem Kept.pownR {b0 gr : Nat} {x : Value} {s : RS18} {w W : World} {v : Value} {l : List PTab} (h : Kept w.heap.size [gr] w W) (ho : POwn b0 w v l) (hr : RBlk gr x s w) : POwn b0 W v l := by
  obtain ⟨zs, h1, h2, h3⟩ := ho
  exact ⟨zs, h1, h.own1 h2 hr (by decide), fun z hz => h.rngsR (h3 z hz) hr⟩
theorem limK_le {m n : Int} {s : RS18} (h : (limK m (n, s)).e = 0) : n ≤ m := by
  unfold limK at h
  simp only at h
  split at h
  · unfold failS at h
    split at h
    · cases h
    · rename_i h1
      exact absurd h h1
  · omega
def LstPostS (gr : Nat) (x : Value) (r : PTab × RS18) (w : World) (en : Ending) (w' : World) : Prop :=
  ∃ y, en = .returned (.agg #[.int .i64 r.1.lo, .int .i64 r.1.hi, y]) ∧ RngsOwn w.heap.size w' y r.1.ranges ∧ RBlk gr x r.2 w' ∧ Kept w.heap.size [gr] w w'
set_option maxHeartbeats 40000000 in
set_option maxRecDepth 100000 in
theorem readList_any (gr : Nat) (x : Value) (b : List UInt8) (s : RS18) (w : World) (hx : St [gr] w (fun W => InB W x b)) (hb : RBlk gr x s w) (hs : OKS b s) (hl : b.length ≤ 1000000) :
    Calls Try.prog 99 #[.pointer (some ⟨gr, 0, none⟩)] w (LstPostS gr x (listS b s) w) := by
  have HX := Lib.hid hx
  have hgr := heap_lt hb
  clear hx
  go_enter Try.func99, Try.ntmps99
  go_upto_region 1 with fail
  have hA := (Ext.refl w).alloc (.cells #[.int .i64 0, .int .i64 0, .slice none 0 0] 66)
  have hG2 := heap_alloc_new w (.cells #[.int .i64 0, .int .i64 0, .slice none 0 0] 66)
  have hb1 : RBlk gr x s (w.alloc (.cells #[.int .i64 0, .int .i64 0, .slice none 0 0] 66)) := hA.heap hb
  obtain ⟨g2, hg2⟩ : ∃ g, g = w.heap.size := ⟨_, rfl⟩
  rw [← hg2] at hG2 ⊢
  have hR1 : BX 66 w gr g2 #[.int .i64 0, .int .i64 0, .slice none 0 0] (w.alloc (.cells #[.int .i64 0, .int .i64 0, .slice none 0 0] 66)) := ⟨hG2, Kept.of_ext hA (Nat.le_refl _), by omega, hgr⟩
  clear hA hG2 hg2 hb
  generalize w.alloc (.cells #[.int .i64 0, .int .i64 0, .slice none 0 0] 66) = w1 at *
  have HM : Hid (∀ W, Kept w.heap.size [gr] w W → St [gr] W (fun W => InB W x b)) := Lib.hid (fun W hk => HX.out.mono hk (fun i hi => by simp only [List.mem_cons, List.not_mem_nil, or_false] at hi ⊢; omega))
  go_wp2_with fail
  refine (rSmall_any gr x b s w1 (HM.out w1 hR1.kept w1 (Kept.refl _ _ _)) hb1 hl).mono ?_
  rintro en w2 ⟨rfl, hb_lo, hg_lo⟩
  have hr_lo := smallS_range b s
  have ho_lo := smallS_ok (b := b) hs
  obtain ⟨z_lo, hz_lo⟩ : ∃ u, u = smallS b s := ⟨_, rfl⟩
  rw [← hz_lo] at hb_lo hr_lo ho_lo ⊢
  have HZ_lo := Lib.hid hz_lo
  clear hz_lo
  obtain ⟨lo, s_lo⟩ := z_lo
  dsimp only at hb_lo hr_lo ho_lo ⊢
  have hR2 := hR1.reader hg_lo
  clear hR1 hb1 hg_lo
  obtain ⟨hst, hG, hXG⟩ := box_new (P := Try.prog) w2 66 #[.int .i64 0, .int .i64 0, .slice none 0 0] #[.int .i64 lo, .int .i64 0, .slice none 0 0] pl_size rfl (by simp [Value.oneCell'])
  go_upto_region 2 with first | refine wpList_store_run rfl 66 (.tmp 3) (.tmp 12) rfl _ _ _ rfl rfl hst ?_
  obtain ⟨g3, hg3⟩ : ∃ g, g = w2.heap.size := ⟨_, rfl⟩
  have hgl3 : w.heap.size ≤ g3 := by rw [hg3]; exact hR2.kept.size
  have hne32 : g3 ≠ g2 := by have := heap_lt hR2.box; omega
  rw [← hg3] at hG hXG ⊢
  generalize (w2.alloc (.cells #[.int .i64 0, .int .i64 0, .slice none 0 0] 66)).setRow g3 #[.int .i64 lo, .int .i64 0, .slice none 0 0] = w3 at *
  have hR3 := hR2.ext hXG
  have hT3 : BX 66 w gr g3 #[.int .i64 lo, .int .i64 0, .slice none 0 0] w3 := ⟨hG, hR3.kept, hgl3, hgr⟩
  have hb3 : RBlk gr x s_lo w3 := hXG.heap hb_lo
  clear hst hG hXG hg3 hR2 hb_lo
  go_wp2_with fail
  refine (rSmall_any gr x b s_lo w3 (HM.out w3 hR3.kept w3 (Kept.refl _ _ _)) hb3 hl).mono ?_
  rintro en w4 ⟨rfl, hb_hi, hg_hi⟩
  have hr_hi := smallS_range b s_lo
  have ho_hi := smallS_ok (b := b) ho_lo
  obtain ⟨z_hi, hz_hi⟩ : ∃ u, u = smallS b s_lo := ⟨_, rfl⟩
  rw [← hz_hi] at hb_hi hr_hi ho_hi ⊢
  have HZ_hi := Lib.hid hz_hi
  clear hz_hi
  obtain ⟨hi, s_hi⟩ := z_hi
  dsimp only at hb_hi hr_hi ho_hi ⊢
  have hR4 := hR3.reader hg_hi
  have hT4 := hT3.reader hg_hi
  clear hR3 hT3 hb3 hg_hi
  have f1 := blk_free hT4.box 1
  have u1 := blk_at hT4.box 1 _ rfl
  have hlt3 := heap_lt hT4.box
  go_upto_region 3 with fail
  have s5 := gset w4 ⟨g3, 1, none⟩ (.int .i64 hi)
  have hT5 : BX 66 w gr g3 #[.int .i64 lo, .int .i64 hi, .slice none 0 0] (w4.setCell ⟨g3, 1, none⟩ (.int .i64 hi)) := hT4.put 1 (.int .i64 hi)
  have hR5 := hR4.grown s5 (fun e => hne32 (by cases e; rfl)) (fun k e => by cases e; exact .inl hgl3)
  have hb5 := hb_hi.read hT4.box (by decide) s5
  clear f1 u1 hlt3 hT4 hR4 hb_hi s5
  generalize w4.setCell ⟨g3, 1, none⟩ (.int .i64 hi) = w5 at *
  go_wp2_with fail
  refine (rUint_any gr x b s_hi w5 (HM.out w5 hR5.kept w5 (Kept.refl _ _ _)) hb5 hl).mono ?_
  rintro en w6 ⟨rfl, hb_nv, hg_nv⟩
  have hr_nv := uintS_range b s_hi
  have ho_nv := uintS_ok (b := b) ho_hi
  obtain ⟨z_nv, hz_nv⟩ : ∃ u, u = uintS b s_hi := ⟨_, rfl⟩
  rw [← hz_nv] at hb_nv hr_nv ho_nv ⊢
  have HZ_nv := Lib.hid hz_nv
  clear hz_nv
  obtain ⟨nv, s_nv⟩ := z_nv
  dsimp only at hb_nv hr_nv ho_nv ⊢
  have hR6 := hR5.reader hg_nv
  have hT6 := hT5.reader hg_nv
  obtain ⟨n, rfl⟩ : ∃ n : Nat, nv = (n : Int) := ⟨nv.toNat, by omega⟩
  have HLS : Hid (listS b s = listT b lo hi ((n : Int), s_nv)) := Lib.hid (by
    unfold listS
    rw [← HZ_lo.out]
    dsimp only
    rw [← HZ_hi.out]
    dsimp only
    rw [← HZ_nv.out])
  clear hR5 hT5 hb5 hg_nv
  go_upto_if 19 with fail
  go_cut [19] (fun _ wx => RBlk gr x (limK 8000 ((n : Int), s_nv)) wx ∧ w6.grownBy wx (some gr))
  case first =>
    by_cases h1 : 8000 < n
    · have d1 : decide ((8000 : Int) < (n : Int)) = true := by simp; omega
      have HF : Hid (limK 8000 ((n : Int), s_nv) = failS 5 s_nv) := Lib.hid (by unfold limK; rw [if_pos (show (8000 : Int) < (n : Int) by omega)])
      go_wp2_with fail
      refine (rFail_any gr x 5 s_nv w6 hb_nv).mono ?_
      rintro en wf ⟨⟨vf, rfl⟩, hbf, hgf⟩
      go_wp2_with fail
      go_meet
      exact ⟨by rw [HF.out]; exact hbf, hgf⟩
    · have d1 : decide ((8000 : Int) < (n : Int)) = false := by simp; omega
      have HF : Hid (limK 8000 ((n : Int), s_nv) = s_nv) := Lib.hid (by unfold limK; rw [if_neg (show ¬ (8000 : Int) < (n : Int) by omega)])
      go_wp2_with fail
      go_meet
      exact ⟨by rw [HF.out]; exact hb_nv, (Ext.refl w6).grownBy _⟩
  obtain ⟨hb7, hg7⟩ := hcut
  obtain ⟨w7, rfl⟩ : ∃ W : World, W = wc := ⟨_, rfl⟩
  have hR7 := hR6.reader hg7
  have hT7 := hT6.reader hg7
  have ho7 := limK_ok (m := 8000) (u := ((n : Int), s_nv)) ho_nv
  have HLE := Lib.hid (fun h => limK_le (m := 8000) (n := (n : Int)) (s := s_nv) h)
  obtain ⟨s7, hs7⟩ : ∃ z, z = limK 8000 ((n : Int), s_nv) := ⟨_, rfl⟩
  rw [← hs7] at hb7 ho7 HLE
  have HLT : Hid (listT b lo hi ((n : Int), s_nv) = (⟨lo, hi, (rngsS b n lo s7).1⟩, (rngsS b n lo s7).2)) := Lib.hid (by unfold listT; rw [← hs7]; simp only [Int.toNat_natCast])
  clear hR6 hT6 hb_nv hg7 hs7
  obtain ⟨t0, t1, t2⟩ := blk3 hT7.box
  go_wp2_with fail
  clear t0 t1 t2
  go_loopw [5, 6] (fun wv i wr => ∃ (k : Nat) (rs : List Rng) (was : Int) (st : RS18) (y : Value), k ≤ n ∧ i = .int .i64 (k : Int) ∧ wv = .int .i64 was ∧ Hid (rs.length = k) ∧ Hid ((k = 0 ∧ st = s7) ∨ n ≤ 8000) ∧ Hid (rngsS b n lo s7 = preS rs (rngsS b (n - k) was st)) ∧ Hid (OKS b st) ∧ BX 66 w gr g3 #[.int .i64 lo, .int .i64 hi, y] wr ∧ BX 66 w gr g2 #[.int .i64 0, .int .i64 0, .slice none 0 0] wr ∧ RngsOwn w.heap.size wr y rs ∧ RBlk gr x st wr) (fun _ i _ => n - (intOf i).toNat)
  case atStart => exact ⟨0, [], lo, s7, _, by omega, rfl, rfl, Lib.hid rfl, Lib.hid (.inl ⟨rfl, rfl⟩), Lib.hid (by rw [preS_nil, Nat.sub_zero]), Lib.hid ho7, hT7, hR7, RngsOwn.nil _ _, hb7⟩
  case round =>
    clear hT7 hR7 hb7 ho7
    obtain ⟨k, rs, was, st, y, hk, rfl, rfl, HRL, HK0, HRS, HOK, hT, hR, hown, hbz⟩ := hrel
    obtain ⟨wz, rfl⟩ : ∃ W : World, W = wr := ⟨_, rfl⟩
    obtain ⟨AY, cY, hyv⟩ := hown.in_.form
    rw [HRL.out] at hyv
    subst hyv
    obtain ⟨c0, c1, c2⟩ := blk3' hbz
    go_upto_region 8 with fail
    go_cut [33] (fun sv wx => ∃ d : Bool, sv = .bool d ∧ (d = true ↔ k < n ∧ st.e = 0) ∧ wx = wz)
    case first =>
      by_cases h1 : k < n
      · have d1 : decide ((k : Int) < (n : Int)) = true := by simp; omega
        by_cases h2 : st.e = 0
        · have e2 : (st.e == 0) = true := by simpa using h2
          have H2 := Lib.hid h2
          clear h2
          go_wp2_with fail
          go_meet
          exact ⟨true, rfl, ⟨fun _ => ⟨by omega, H2.out⟩, fun _ => rfl⟩, rfl⟩
        · have e2 : (st.e == 0) = false := by simpa using h2
          have H2 := Lib.hid h2
          clear h2
          go_wp2_with fail
          go_meet
          exact ⟨false, rfl, ⟨fun h => (by cases h), fun h => absurd h.2 H2.out⟩, rfl⟩
      · have d1 : decide ((k : Int) < (n : Int)) = false := by simp; omega
        go_wp2_with fail
        go_meet
        exact ⟨false, rfl, ⟨fun h => (by cases h), fun h => absurd h.1 (by omega)⟩, rfl⟩
    obtain ⟨d, rfl, hd, hwe⟩ := hcut
    subst hwe
    obtain ⟨wz, rfl⟩ : ∃ W : World, W = wc := ⟨_, rfl⟩
    clear c0 c1 c2
    cases d with
    | false =>
      have HE : Hid (rngsS b n lo s7 = (rs, st)) := Lib.hid (by
        have h1 : n - k = 0 ∨ st.e ≠ 0 := by
          by_cases h2 : k < n
          · right
            intro h3
            have := hd.2 ⟨h2, h3⟩
            cases this
          · left; omega
        rw [HRS.out, rngsS_end h1]
        simp [preS])
      have HPF : Hid (listS b s = (⟨lo, hi, rs⟩, st)) := Lib.hid (by rw [HLS.out, HLT.out, HE.out])
      clear hd HRS
      have hldt := run_loadAt_blk (P := Try.prog) wz g3 66 66 _ (0, 0) _ hT.box Try.underlying66 rfl pl_size
      have hstt := run_storeAt_blk (P := Try.prog) wz g2 66 66 _ #[.int .i64 lo, .int .i64 hi, .slice AY k cY] hR.box pl_size rfl (by simp [Value.oneCell'])
      go_wp2_with first | refine wpList_load_run rfl 66 (.tmp 3) rfl _ _ rfl hldt ?_ | refine wpList_store_run rfl 66 (.tmp 2) (.tmp 89) rfl _ _ _ rfl rfl hstt ?_
      have hZ9 := setRow_heap wz g2 _ #[.int .i64 lo, .int .i64 hi, .slice AY k cY] _ _ hR.box
      have s9r := gsetRow wz g2 #[.int .i64 lo, .int .i64 hi, .slice AY k cY]
      have hk9 := hR.kept.trans (Kept.of_grown s9r hR.kept.size (fun k e => by cases e; exact .inl hR.low.1))
      have hrd9 := hbz.read hR.box (by decide) s9r
      have hown9 := hown.put7 hR.box s9r
      clear hldt hstt s9r hbz hT hR hown
      generalize wz.setRow g2 #[.int .i64 lo, .int .i64 hi, .slice AY k cY] = wy at *
      obtain ⟨k0, k1, k2⟩ := blk3 hZ9
      refine bodyPost_ret (v := .agg #[.int .i64 lo, .int .i64 hi, .slice AY k cY]) (by simp [results, Try.results99, go_sem, k0, k1, k2]) rfl ?_
      rw [HPF.out]
      exact ⟨_, rfl, hown9, hrd9, hk9⟩
    | true =>
    obtain ⟨hkn, hse⟩ := hd.1 rfl
    have hn8 : n ≤ 8000 := by
      rcases HK0.out with ⟨_, h2⟩ | h2
      · have := HLE.out (by rw [← h2]; exact hse)
        omega
      · exact h2
    have HSN : Hid (n - k = (n - (k + 1)) + 1) := Lib.hid (by omega)
    have HSE := Lib.hid hse
    clear hd hse
    have hgz : gr < wz.heap.size := heap_lt hbz
    go_wp2_with fail
    refine (rSmall_any gr x b st wz (HM.out wz hR.kept wz (Kept.refl _ _ _)) hbz hl).mono ?_
    rintro en wa ⟨rfl, hb_va, hg_va⟩
    have hr_va := smallS_range b st
    have ho_va := smallS_ok (b := b) HOK.out
    obtain ⟨z_va, hz_va⟩ : ∃ u, u = smallS b st := ⟨_, rfl⟩
    rw [← hz_va] at hb_va hr_va ho_va ⊢
    have HZ_va := Lib.hid hz_va
    clear hz_va
    obtain ⟨va, s_va⟩ := z_va
    dsimp only at hb_va hr_va ho_va ⊢
    have hKa : Kept wz.heap.size [gr] wz wa := Kept.of_grown hg_va (Nat.le_refl _) (fun k e => by cases e; exact .inr (by simp))
    obtain ⟨lo2, hlo2⟩ : ∃ m, IntKind.i64.wrap (was + va) = m := ⟨_, rfl⟩
    have HLO2 := Lib.hid hlo2
    obtain ⟨hst, hG, hXG⟩ := box_new (P := Try.prog) wa 69 #[.int .i64 0, .int .i64 0, .int .i64 0, .int .i64 0, .int .i64 0, .slice none 0 0] #[.int .i64 0, .int .i64 0, .int .i64 0, .int .i64 lo2, .int .i64 0, .slice none 0 0] rg_size rfl (by simp [Value.oneCell'])
    go_upto_region 11 with first | refine wpList_store_run rfl 69 (.tmp 7) (.tmp 40) rfl _ _ _ rfl rfl hst ?_
    obtain ⟨g7, hg7⟩ : ∃ g, g = wa.heap.size := ⟨_, rfl⟩
    have hgl7 : wz.heap.size ≤ g7 := by rw [hg7]; exact hKa.size
    have hne7 : some g7 ≠ some gr := fun e => by
      have h1 : g7 = gr := by injection e
      omega
    rw [← hg7] at hG hXG ⊢
    generalize (wa.alloc (.cells #[.int .i64 0, .int .i64 0, .int .i64 0, .int .i64 0, .int .i64 0, .slice none 0 0] 69)).setRow g7 #[.int .i64 0, .int .i64 0, .int .i64 0, .int .i64 lo2, .int .i64 0, .slice none 0 0] = wb at *
    have hB : BX 69 wz gr g7 #[.int .i64 0, .int .i64 0, .int .i64 0, .int .i64 lo2, .int .i64 0, .slice none 0 0] wb := ⟨hG, hKa.drop1 (Kept.of_ext hXG (Nat.le_refl _)), hgl7, hgz⟩
    have hbb : RBlk gr x s_va wb := hXG.heap hb_va
    clear hst hG hXG hKa hg7 hb_va hg_va hlo2
    refine wp_region_Z #[true, true, true, true, true, false, false] (some gr) 5 2 (by kernel_rfl) rfl ?_
    refine wpZ_v 0 (.pointer (some ⟨g7, 3, none⟩)) rfl rfl (by kernel_rfl) (by kernel_rfl) (by kernel_rfl) (fun _ _ _ _ h => h) (by kernel_rfl) rfl (by rfl) (fun W' hW => by
      skip
      go_simp) ?_
    simp only [List.setIfInBounds_toArray, List.set_cons_zero, List.set_cons_succ]
    refine wpZ_v 1 (.int .i64 lo2) rfl rfl (by kernel_rfl) (by kernel_rfl) (by kernel_rfl) (fun _ _ _ _ h => h) (by kernel_rfl) rfl (by rfl) (fun W' hW => by
      have hgw := gtrans (((Ext.refl wb).drew).grownBy (some gr)) hW
      have z := blk_at (blk_grown hB.box hgw hne7) 3 _ rfl
      go_simp) ?_
    simp only [List.setIfInBounds_toArray, List.set_cons_zero, List.set_cons_succ]
    refine wpZ_v 2 (.pointer (some ⟨gr, 0, none⟩)) rfl rfl (by kernel_rfl) (by kernel_rfl) (by kernel_rfl) (fun _ _ _ _ h => h) (by kernel_rfl) rfl (by rfl) (fun W' hW => by
      skip
      go_simp) ?_
    simp only [List.setIfInBounds_toArray, List.set_cons_zero, List.set_cons_succ]
    refine wpZ_c 3 81 #[.pointer (some ⟨gr, 0, none⟩)] rfl rfl (by kernel_rfl) rfl (by rfl) (fun W => by go_simp) ?_
    intro W1 hW1
    have hX1 := ((Ext.refl wb).drew).trans hW1
    have hB1 := hB.ext hX1
    have hb1 : RBlk gr x s_va W1 := hX1.heap hbb
    refine (rSmall_any gr x b s_va W1 (HM.out W1 (hR.kept.drop1 hB1.kept) W1 (Kept.refl _ _ _)) hb1 hl).mono ?_
    rintro en we ⟨rfl, hb_vh, hg_vh⟩
    have hr_vh := smallS_range b s_va
    have ho_vh := smallS_ok (b := b) ho_va
    obtain ⟨z_vh, hz_vh⟩ : ∃ u, u = smallS b s_va := ⟨_, rfl⟩
    rw [← hz_vh] at hb_vh hr_vh ho_vh ⊢
    have HZ_vh := Lib.hid hz_vh
    clear hz_vh
    obtain ⟨vh, s_vh⟩ := z_vh
    dsimp only at hb_vh hr_vh ho_vh ⊢
    refine ⟨_, rfl, hg_vh, ?_⟩
    simp only [List.setIfInBounds_toArray, List.set_cons_zero, List.set_cons_succ]
    obtain ⟨hi2, hhi2⟩ : ∃ m, IntKind.i64.wrap (lo2 + vh) = m := ⟨_, rfl⟩
    have HHI2 := Lib.hid hhi2
    have hB2 := hB1.reader hg_vh
    refine wpZ_v 4 (.int .i64 hi2) rfl rfl (by kernel_rfl) (by kernel_rfl) (by kernel_rfl) (fun _ _ _ _ h => h) (by kernel_rfl) rfl (by rfl) (fun W' hW => by
      skip
      go_simp) ?_
    simp only [List.setIfInBounds_toArray, List.set_cons_zero, List.set_cons_succ]
    refine wpZ_end rfl fun W2 hW2 => tail_seq 5 rfl (by kernel_rfl) ?_
    simp only [List.drop_succ_cons, List.drop_zero]
    have hB3 := hB2.ext hW2
    have hb3 : RBlk gr x s_vh W2 := hW2.heap hb_vh
    have f4 := blk_free hB3.box 4
    have u4 := blk_at hB3.box 4 _ rfl
    have hlt7 := heap_lt hB3.box
    clear hW1 hX1 hB1 hb1 hb_vh hg_vh hB2 hW2 hB hbb hhi2
    go_wp2_with fail
    refine NoPanic.normal ?_
    have s4 := gset W2 ⟨g7, 4, none⟩ (.int .i64 hi2)
    have hB4 : BX 69 wz gr g7 #[.int .i64 0, .int .i64 0, .int .i64 0, .int .i64 lo2, .int .i64 hi2, .slice none 0 0] (W2.setCell ⟨g7, 4, none⟩ (.int .i64 hi2)) := hB3.put 4 (.int .i64 hi2)
    have hb4 := hb3.read hB3.box (by decide) s4
    clear s4 hB3 hb3 f4 u4 hlt7
    generalize W2.setCell ⟨g7, 4, none⟩ (.int .i64 hi2) = wd at *
    go_wp2_with fail
    refine (rSmall_any gr x b s_vh wd (HM.out wd (hR.kept.drop1 hB4.kept) wd (Kept.refl _ _ _)) hb4 hl).mono ?_
    rintro en wf ⟨rfl, hb_vc, hg_vc⟩
    have hr_vc := smallS_range b s_vh
    have ho_vc := smallS_ok (b := b) ho_vh
    obtain ⟨z_vc, hz_vc⟩ : ∃ u, u = smallS b s_vh := ⟨_, rfl⟩
    rw [← hz_vc] at hb_vc hr_vc ho_vc ⊢
    have HZ_vc := Lib.hid hz_vc
    clear hz_vc
    obtain ⟨vc, s_vc⟩ := z_vc
    dsimp only at hb_vc hr_vc ho_vc ⊢
    have hBr := hB4.reader hg_vc
    have f1 := blk_free hBr.box 0
    have u1 := blk_at hBr.box 0 _ rfl
    have hlt7 := heap_lt hBr.box
    go_upto_region 13 with fail
    have s1 := gset wf ⟨g7, 0, none⟩ (.int .i64 vc)
    have hB5 : BX 69 wz gr g7 #[.int .i64 vc, .int .i64 0, .int .i64 0, .int .i64 lo2, .int .i64 hi2, .slice none 0 0] (wf.setCell ⟨g7, 0, none⟩ (.int .i64 vc)) := hBr.put 0 (.int .i64 vc)
    have hb5 := hb_vc.read hBr.box (by decide) s1
    clear f1 u1 hlt7 hBr s1 hb_vc hB4 hb4 hg_vc
    generalize wf.setCell ⟨g7, 0, none⟩ (.int .i64 vc) = wg at *
    go_wp2_with fail
    refine (rSmall_any gr x b s_vc wg (HM.out wg (hR.kept.drop1 hB5.kept) wg (Kept.refl _ _ _)) hb5 hl).mono ?_
    rintro en wh ⟨rfl, hb_vv, hg_vv⟩
    have hr_vv := smallS_range b s_vc
    have ho_vv := smallS_ok (b := b) ho_vc
    obtain ⟨z_vv, hz_vv⟩ : ∃ u, u = smallS b s_vc := ⟨_, rfl⟩
    rw [← hz_vv] at hb_vv hr_vv ho_vv ⊢
    have HZ_vv := Lib.hid hz_vv
    clear hz_vv
    obtain ⟨vv, s_vv⟩ := z_vv
    dsimp only at hb_vv hr_vv ho_vv ⊢
    have hBr := hB5.reader hg_vv
    have f1 := blk_free hBr.box 1
    have u1 := blk_at hBr.box 1 _ rfl
    have hlt7 := heap_lt hBr.box
    go_upto_region 14 with fail
    have s1 := gset wh ⟨g7, 1, none⟩ (.int .i64 vv)
    have hB6 : BX 69 wz gr g7 #[.int .i64 vc, .int .i64 vv, .int .i64 0, .int .i64 lo2, .int .i64 hi2, .slice none 0 0] (wh.setCell ⟨g7, 1, none⟩ (.int .i64 vv)) := hBr.put 1 (.int .i64 vv)
    have hb6 := hb_vv.read hBr.box (by decide) s1
    clear f1 u1 hlt7 hBr s1 hb_vv hB5 hb5 hg_vv
    generalize wh.setCell ⟨g7, 1, none⟩ (.int .i64 vv) = wi at *
    go_wp2_with fail
    refine (rSmall_any gr x b s_vv wi (HM.out wi (hR.kept.drop1 hB6.kept) wi (Kept.refl _ _ _)) hb6 hl).mono ?_
    rintro en wj ⟨rfl, hb_vq, hg_vq⟩
    have hr_vq := smallS_range b s_vv
    have ho_vq := smallS_ok (b := b) ho_vv
    obtain ⟨z_vq, hz_vq⟩ : ∃ u, u = smallS b s_vv := ⟨_, rfl⟩
    rw [← hz_vq] at hb_vq hr_vq ho_vq ⊢
    have HZ_vq := Lib.hid hz_vq
    clear hz_vq
    obtain ⟨vq, s_vq⟩ := z_vq
    dsimp only at hb_vq hr_vq ho_vq ⊢
    have hBr := hB6.reader hg_vq
    have f1 := blk_free hBr.box 2
    have u1 := blk_at hBr.box 2 _ rfl
    have hlt7 := heap_lt hBr.box
    go_upto_region 15 with fail
    have s1 := gset wj ⟨g7, 2, none⟩ (.int .i64 vq)
    have hB7 : BX 69 wz gr g7 #[.int .i64 vc, .int .i64 vv, .int .i64 vq, .int .i64 lo2, .int .i64 hi2, .slice none 0 0] (wj.setCell ⟨g7, 2, none⟩ (.int .i64 vq)) := hBr.put 2 (.int .i64 vq)
    have hb7 := hb_vq.read hBr.box (by decide) s1
    clear f1 u1 hlt7 hBr s1 hb_vq hB6 hb6 hg_vq
    generalize wj.setCell ⟨g7, 2, none⟩ (.int .i64 vq) = wk at *
    go_wp2_with fail
    refine (rUint_any gr x b s_vq wk (HM.out wk (hR.kept.drop1 hB7.kept) wk (Kept.refl _ _ _)) hb7 hl).mono ?_
    rintro en wl ⟨rfl, hb_mv, hg_mv⟩
    have hr_mv := uintS_range b s_vq
    have ho_mv := uintS_ok (b := b) ho_vq
    obtain ⟨z_mv, hz_mv⟩ : ∃ u, u = uintS b s_vq := ⟨_, rfl⟩
    rw [← hz_mv] at hb_mv hr_mv ho_mv ⊢
    have HZ_mv := Lib.hid hz_mv
    clear hz_mv
    obtain ⟨mv, s_mv⟩ := z_mv
    dsimp only at hb_mv hr_mv ho_mv ⊢
    have hB8 := hB7.reader hg_mv
    obtain ⟨m, rfl⟩ : ∃ m : Nat, mv = (m : Int) := ⟨mv.toNat, by omega⟩
    have HRT : Hid (rngS b was st = rngT b vc vv vq lo2 hi2 ((m : Int), s_mv)) := Lib.hid (by
      unfold rngS
      rw [← HZ_va.out]
      dsimp only
      rw [HLO2.out, ← HZ_vh.out]
      dsimp only
      rw [HHI2.out, ← HZ_vc.out]
      dsimp only
      rw [← HZ_vv.out]
      dsimp only
      rw [← HZ_vq.out]
      dsimp only
      rw [← HZ_mv.out])
    clear hB7 hb7 hg_mv
    go_upto_if 59 with fail
    go_cut [59] (fun _ wx => RBlk gr x (limK 40 ((m : Int), s_mv)) wx ∧ wl.grownBy wx (some gr))
    case first =>
      by_cases h1 : 40 < m
      · have d1 : decide ((40 : Int) < (m : Int)) = true := by simp; omega
        have HF : Hid (limK 40 ((m : Int), s_mv) = failS 5 s_mv) := Lib.hid (by unfold limK; rw [if_pos (show (40 : Int) < (m : Int) by omega)])
        go_wp2_with fail
        refine (rFail_any gr x 5 s_mv wl hb_mv).mono ?_
        rintro en wf ⟨⟨vf, rfl⟩, hbf, hgf⟩
        go_wp2_with fail
        go_meet
        exact ⟨by rw [HF.out]; exact hbf, hgf⟩
      · have d1 : decide ((40 : Int) < (m : Int)) = false := by simp; omega
        have HF : Hid (limK 40 ((m : Int), s_mv) = s_mv) := Lib.hid (by unfold limK; rw [if_neg (show ¬ (40 : Int) < (m : Int) by omega)])
        go_wp2_with fail
        go_meet
        exact ⟨by rw [HF.out]; exact hb_mv, (Ext.refl wl).grownBy _⟩
    obtain ⟨hb9, hg9⟩ := hcut
    obtain ⟨wm, rfl⟩ : ∃ W : World, W = wc := ⟨_, rfl⟩
    have hB9 := hB8.reader hg9
    have ho9 := limK_ok (m := 40) (u := ((m : Int), s_mv)) ho_mv
    have HLM := Lib.hid (fun h => limK_le (m := 40) (n := (m : Int)) (s := s_mv) h)
    obtain ⟨s9, hs9⟩ : ∃ z, z = limK 40 ((m : Int), s_mv) := ⟨_, rfl⟩
    rw [← hs9] at hb9 ho9 HLM
    have HRQ : Hid (rngS b was st = (⟨vc, vv, vq, lo2, hi2, (plcsS b m s9).1⟩, (plcsS b m s9).2)) := Lib.hid (by rw [HRT.out]; unfold rngT; rw [← hs9]; simp only [Int.toNat_natCast])
    clear hB8 hb_mv hg9 hs9
    go_wp2_with fail
    go_loopw [9] (fun i wr => ∃ (j : Nat) (ps : List Plc) (st2 : RS18) (z : Value), j ≤ m ∧ i = .int .i64 (j : Int) ∧ Hid (ps.length = j) ∧ Hid ((j = 0 ∧ st2 = s9) ∨ m ≤ 40) ∧ Hid (plcsS b m s9 = preS ps (plcsS b (m - j) st2)) ∧ Hid (OKS b st2) ∧ BX 69 wz gr g7 #[.int .i64 vc, .int .i64 vv, .int .i64 vq, .int .i64 lo2, .int .i64 hi2, z] wr ∧ OwnR plcCells 3 75 wz.heap.size wr z ps ∧ RBlk gr x st2 wr) (fun i _ => m - (intOf i).toNat)
    case atStart => exact ⟨0, [], s9, _, by omega, rfl, Lib.hid rfl, Lib.hid (.inl ⟨rfl, rfl⟩), Lib.hid (by rw [preS_nil, Nat.sub_zero]), Lib.hid ho9, hB9, OwnR.nil _, hb9⟩
    case round =>
      clear hB9 hb9 ho9
      obtain ⟨j, ps, st2, z, hj, rfl, HJ, HJ0, HPS, HOK2, hB, hps, hby⟩ := hrel
      obtain ⟨wy, rfl⟩ : ∃ W : World, W = wr := ⟨_, rfl⟩
      obtain ⟨AZ, cZ, hzv, _, _⟩ := hps.inR
      rw [HJ.out] at hzv
      subst hzv
      obtain ⟨c0, c1, c2⟩ := blk3' hby
      go_upto_region 19 with fail
      go_cut [71] (fun sv wx => ∃ d : Bool, sv = .bool d ∧ (d = true ↔ j < m ∧ st2.e = 0) ∧ wx = wy)
      case first =>
        by_cases h1 : j < m
        · have d1 : decide ((j : Int) < (m : Int)) = true := by simp; omega
          by_cases h2 : st2.e = 0
          · have e2 : (st2.e == 0) = true := by simpa using h2
            have H2 := Lib.hid h2
            clear h2
            go_wp2_with fail
            go_meet
            exact ⟨true, rfl, ⟨fun _ => ⟨by omega, H2.out⟩, fun _ => rfl⟩, rfl⟩
          · have e2 : (st2.e == 0) = false := by simpa using h2
            have H2 := Lib.hid h2
            clear h2
            go_wp2_with fail
            go_meet
            exact ⟨false, rfl, ⟨fun h => (by cases h), fun h => absurd h.2 H2.out⟩, rfl⟩
        · have d1 : decide ((j : Int) < (m : Int)) = false := by simp; omega
          go_wp2_with fail
          go_meet
          exact ⟨false, rfl, ⟨fun h => (by cases h), fun h => absurd h.1 (by omega)⟩, rfl⟩
      obtain ⟨d, rfl, hd, hwe⟩ := hcut
      subst hwe
      obtain ⟨wy, rfl⟩ : ∃ W : World, W = wc := ⟨_, rfl⟩
      clear c0 c1 c2
      cases d with
      | true =>
        obtain ⟨hjm, hse⟩ := hd.1 rfl
        have hm40 : m ≤ 40 := by
          rcases HJ0.out with ⟨_, h2⟩ | h2
          · have := HLM.out (by rw [← h2]; exact hse)
            omega
          · exact h2
        have HSJ : Hid (m - j = (m - (j + 1)) + 1) := Lib.hid (by omega)
        have HSE2 := Lib.hid hse
        clear hd hse
        go_upto_region 21 with fail
        refine wp_region_Z #[true, true, true, true, true, false, false, false] (some gr) 5 3 (by kernel_rfl) rfl ?_
        refine wpZ_v 0 (.pointer (some ⟨g7, 5, none⟩)) rfl rfl (by kernel_rfl) (by kernel_rfl) (by kernel_rfl) (fun _ _ _ _ h => h) (by kernel_rfl) rfl (by rfl) (fun W' hW => by
          skip
          go_simp) ?_
        simp only [List.setIfInBounds_toArray, List.set_cons_zero, List.set_cons_succ]
        refine wpZ_v 1 (.slice AZ j cZ) rfl rfl (by kernel_rfl) (by kernel_rfl) (by kernel_rfl) (fun _ _ _ _ h => h) (by kernel_rfl) rfl (by rfl) (fun W' hW => by
          have hgw := gtrans (((Ext.refl wy).drew).grownBy (some gr)) hW
          have z := blk_at (blk_grown hB.box hgw hne7) 5 _ rfl
          go_simp) ?_
        simp only [List.setIfInBounds_toArray, List.set_cons_zero, List.set_cons_succ]
        refine wpZ_v 2 (.pointer (some ⟨gr, 0, none⟩)) rfl rfl (by kernel_rfl) (by kernel_rfl) (by kernel_rfl) (fun _ _ _ _ h => h) (by kernel_rfl) rfl (by rfl) (fun W' hW => by
          skip
          go_simp) ?_
        simp only [List.setIfInBounds_toArray, List.set_cons_zero, List.set_cons_succ]
        refine wpZ_c 3 112 #[.pointer (some ⟨gr, 0, none⟩)] rfl rfl (by kernel_rfl) rfl (by rfl) (fun W => by go_simp) ?_
        intro W1 hW1
        have hX1 := ((Ext.refl wy).drew).trans hW1
        have hB1 := hB.ext hX1
        have hps1 := hps.ext hX1
        have hb1 : RBlk gr x st2 W1 := hX1.heap hby
        refine (readPlace_any gr x b st2 W1 (HM.out W1 (hR.kept.drop1 hB1.kept)) hb1 HOK2.out hl).mono ?_
        rintro en we ⟨rfl, hb2, hk2⟩
        have ho2 := placeS_ok HOK2.out
        obtain ⟨zp, hzp⟩ : ∃ u, u = placeS b st2 := ⟨_, rfl⟩
        rw [← hzp] at hb2 ho2 ⊢
        have HZP := Lib.hid hzp
        obtain ⟨pc, s3⟩ := zp
        dsimp only at hb2 ho2 ⊢
        refine ⟨_, rfl, hk2.g1, ?_⟩
        simp only [List.setIfInBounds_toArray, List.set_cons_zero, List.set_cons_succ]
        have hB2 := hB1.next hk2
        have hps2 := hk2.own1 hps1 hb1 (by decide)
        refine wpZ_m 4 rfl rfl (by kernel_rfl) rfl (by rfl) fun W2 hW2 => ?_
        have hA := (Ext.refl W2).alloc (.cells #[.int .i64 pc.kind, .int .i64 pc.n, .int .i64 pc.add] 75)
        refine ⟨.slice (some ⟨W2.heap.size, 0, none⟩) 1 1, W2.alloc (.cells #[.int .i64 pc.kind, .int .i64 pc.n, .int .i64 pc.add] 75), by go_simp, hA.grownBy _, ?_⟩
        simp only [List.setIfInBounds_toArray, List.set_cons_zero, List.set_cons_succ]
        have hin : InR plcCells (W2.alloc (.cells #[.int .i64 pc.kind, .int .i64 pc.n, .int .i64 pc.add] 75)) (.slice (some ⟨W2.heap.size, 0, none⟩) 1 1) [pc] := (OwnR_one (f := plcCells) W2 pc rfl 75).inR
        have hX3 := hW2.trans hA
        generalize W2.alloc (.cells #[.int .i64 pc.kind, .int .i64 pc.n, .int .i64 pc.add] 75) = W3 at *
        generalize W2.heap.size = gn at *
        refine wpZ_end rfl fun W6 hW6 => tail_seq 5 rfl (by kernel_rfl) ?_
        simp only [List.drop_succ_cons, List.drop_zero]
        have hX6 := hX3.trans hW6
        have hB6 := hB2.ext hX6
        have hps6 := hps2.ext hX6
        have hb6 : RBlk gr x s3 W6 := hX6.heap hb2
        have hin6 := hin.ext hW6
        have hsz6 := hB6.kept.size
        clear hW1 hX1 hB1 hps1 hb1 hb2 hk2 hB2 hps2 hW2 hA hin hX3 hW6 hX6 hB hps hby hzp
        go_wp2_with (at_builtin; go_must (refine wpList_appendR elem_pc rfl (.tmp 75) (.tmp 78) rfl wz.heap.size _ ps rfl hps6 _ [pc] rfl hin6 (fun _ _ => rfl) (fun b hb u hu => by simp only [List.mem_singleton] at hb; subst hb; simp only [plcCells, List.mem_cons, List.not_mem_nil, or_false] at hu; rcases hu with rfl | rfl | rfl <;> rfl) (by have := HJ.out; simp only [List.length_cons, List.length_nil]; omega) (by omega) hsz6 (Hold.out ?_)))
        refine Hold.mk fun vC wC hoC hgC => ?_
        have hB9 := hB6.grown hgC.grown (hps6.ne_blk hB6.box (by decide)).symm (fun k e => .inl (hps6.ge k e))
        have hbC : RBlk gr x s3 wC := blk_grown hb6 hgC.grown (hps6.ne_blk hb6 (by decide)).symm
        obtain ⟨A9, c9, hv9', _, _⟩ := hoC.inR
        rw [List.length_append, HJ.out, List.length_singleton] at hv9'
        subst hv9'
        have f5 := blk_free hB9.box 5
        have u5 := blk_at hB9.box 5 _ rfl
        have hlt5 := heap_lt hB9.box
        clear hB6 hps6 hb6 hin6 hsz6 hgC
        go_wp2_with fail
        refine NoPanic.normal ?_
        have s5 := gset wC ⟨g7, 5, none⟩ (.slice A9 (j + 1) c9)
        have hBn : BX 69 wz gr g7 #[.int .i64 vc, .int .i64 vv, .int .i64 vq, .int .i64 lo2, .int .i64 hi2, .slice A9 (j + 1) c9] (wC.setCell ⟨g7, 5, none⟩ (.slice A9 (j + 1) c9)) := hB9.put 5 (.slice A9 (j + 1) c9)
        have hpn := hoC.kept s5 (.inr (hoC.ne_blk hB9.box (by decide)))
        have hbn := hbC.read hB9.box (by decide) s5
        clear s5 hB9 hoC hbC f5 u5 hlt5
        generalize wC.setCell ⟨g7, 5, none⟩ (.slice A9 (j + 1) c9) = wn at *
        have HJn : Hid ((ps ++ [pc]).length = j + 1) := Lib.hid (by rw [List.length_append, HJ.out]; rfl)
        have HPSn : Hid (plcsS b m s9 = preS (ps ++ [pc]) (plcsS b (m - (j + 1)) s3)) := Lib.hid (by
          rw [HPS.out, HSJ.out]
          conv => lhs; unfold plcsS
          rw [if_neg (by simpa using HSE2.out), ← HZP.out, preS_preS])
        go_wp2_with fail
        go_roundw
        case rel => exact ⟨j + 1, ps ++ [pc], s3, _, by omega, by first | (with_reducible rfl) | go_num, HJn, Lib.hid (.inr hm40), HPSn, Lib.hid ho2, hBn, hpn, hbn⟩
        case measure => simp [intOf]; omega
      | false =>
        have HPE : Hid (plcsS b m s9 = (ps, st2)) := Lib.hid (by
          have h1 : m - j = 0 ∨ st2.e ≠ 0 := by
            by_cases h2 : j < m
            · right
              intro h3
              have := hd.2 ⟨h2, h3⟩
              cases this
            · left; omega
          rw [HPS.out, plcsS_end h1]
          simp [preS])
        have hj40 : j ≤ 40 := by
          rcases HJ0.out with ⟨h2, _⟩ | h2 <;> omega
        have HRR : Hid (rngS b was st = ((⟨vc, vv, vq, lo2, hi2, ps⟩ : Rng), st2)) := Lib.hid (by rw [HRQ.out, HPE.out])
        have HRSn : Hid (rngsS b n lo s7 = preS (rs ++ [(⟨vc, vv, vq, lo2, hi2, ps⟩ : Rng)]) (rngsS b (n - (k + 1)) lo2 st2)) := Lib.hid (by
          rw [HRS.out, HSN.out]
          conv => lhs; unfold rngsS
          rw [if_neg (by simpa using HSE.out), HRR.out, preS_preS])
        clear hd HPS
        have hT2 := hT.next hB.kept
        have hR2 := hR.next hB.kept
        obtain ⟨zt, hz1, hz2, hz3⟩ := hB.kept.rngsR hown hbz
        have hps2 := hps.low hR.kept.size
        have HZ1 := Lib.hid hz1
        have HZ3 := Lib.hid hz3
        have hzl : zt.length = k := by
          have h1 : zt.length = rs.length := by rw [← hz1]; simp
          rw [h1, HRL.out]
        clear hz1 hz3 hps hT hR hown hbz
        obtain ⟨t0, t1, t2⟩ := blk3 hT2.box
        obtain ⟨v0, v1, v2, v3, v4, v5⟩ := blk6 hB.box
        have hlds := run_loadAt_blk (P := Try.prog) wy g7 69 69 _ (0, 0) _ hB.box Try.underlying69 rfl rg_size
        have hA5 := (Ext.refl wy).alloc (.cells #[.int .i64 vc, .int .i64 vv, .int .i64 vq, .int .i64 lo2, .int .i64 hi2, .slice AZ j cZ] 69)
        have hin5 : InR rngCells (wy.alloc (.cells #[.int .i64 vc, .int .i64 vv, .int .i64 vq, .int .i64 lo2, .int .i64 hi2, .slice AZ j cZ] 69)) (.slice (some ⟨wy.heap.size, 0, none⟩) 1 1) [((⟨vc, vv, vq, lo2, hi2, ps⟩ : Rng), Value.slice AZ j cZ)] := (OwnR_one (f := rngCells) wy ((⟨vc, vv, vq, lo2, hi2, ps⟩ : Rng), Value.slice AZ j cZ) rfl 69).inR
        have hsz5 := Nat.le_trans hT2.kept.size hA5.size
        have hz5 := hz2.ext hA5
        go_upto_region 23 with fail
        go_wp2_with first | refine wpList_load_run rfl 69 (.tmp 7) rfl _ _ rfl hlds ?_ | refine wpList_rowOne elem_rg rfl (.tmp 85) rfl #[.int .i64 vc, .int .i64 vv, .int .i64 vq, .int .i64 lo2, .int .i64 hi2, .slice AZ j cZ] rfl rfl (by omega) ?_ | (at_builtin; go_must (refine wpList_appendR elem_rg rfl (.tmp 84) (.tmp 86) rfl w.heap.size _ zt rfl hz5 _ [((⟨vc, vv, vq, lo2, hi2, ps⟩ : Rng), Value.slice AZ j cZ)] rfl hin5 (fun _ _ => rfl) (fun b hb u hu => by simp only [List.mem_singleton] at hb; subst hb; simp only [rngCells, List.mem_cons, List.not_mem_nil, or_false] at hu; rcases hu with rfl | rfl | rfl | rfl | rfl | rfl <;> rfl) (by simp only [List.length_cons, List.length_nil]; omega) (by omega) hsz5 (Hold.out ?_)))
        refine Hold.mk fun vC wC hoC hgC => ?_
        have hT5 := hT2.ext hA5
        have hR5 := hR2.ext hA5
        have hT9 := hT5.grown hgC.grown (hz5.ne_blk hT5.box (by decide)).symm (fun k e => .inl (hz5.ge k e))
        have hR9 := hR5.grown hgC.grown (hz5.ne_blk hR5.box (by decide)).symm (fun k e => .inl (hz5.ge k e))
        have hb5 : RBlk gr x st2 (wy.alloc (.cells #[.int .i64 vc, .int .i64 vv, .int .i64 vq, .int .i64 lo2, .int .i64 hi2, .slice AZ j cZ] 69)) := hA5.heap hby
        have hbC : RBlk gr x st2 wC := blk_grown hb5 hgC.grown (hz5.ne_blk hb5 (by decide)).symm
        have honC : RngsOwn w.heap.size wC vC (rs ++ [(⟨vc, vv, vq, lo2, hi2, ps⟩ : Rng)]) := by
          refine ⟨zt ++ [((⟨vc, vv, vq, lo2, hi2, ps⟩ : Rng), Value.slice AZ j cZ)], by rw [List.map_append, HZ1.out]; rfl, hoC, fun z hz => ?_⟩
          have hin' : ∀ (v : Value) (l : List Plc), OwnR plcCells 3 75 w.heap.size (wy.alloc (.cells #[.int .i64 vc, .int .i64 vv, .int .i64 vq, .int .i64 lo2, .int .i64 hi2, .slice AZ j cZ] 69)) v l → OwnR plcCells 3 75 w.heap.size wC v l := fun v l hzz => hzz.kept hgC.grown (row_ne hzz hz5 (by decide))
          rcases List.mem_append.1 hz with hz | hz
          · exact hin' _ _ ((HZ3.out z hz).ext hA5)
          · simp only [List.mem_singleton] at hz
            subst hz
            exact hin' _ _ (hps2.ext hA5)
        obtain ⟨A9, c9, hv9'⟩ := honC.in_.form
        rw [List.length_append, List.length_singleton, HRL.out] at hv9'
        subst hv9'
        have f2 := blk_free hT9.box 2
        have u2 := blk_at hT9.box 2 _ rfl
        have hlt9 := heap_lt hT9.box
        clear hlds hA5 hin5 hsz5 hz5 hz2 hT5 hT2 hR5 hR2 hps2 hoC hgC t0 t1 t2 v0 v1 v2 v3 v4 v5 hB hby hzl hb5
        go_upto_region 9 with fail
        have s4 := gset wC ⟨g3, 2, none⟩ (.slice A9 (k + 1) c9)
        have hTn : BX 66 w gr g3 #[.int .i64 lo, .int .i64 hi, .slice A9 (k + 1) c9] (wC.setCell ⟨g3, 2, none⟩ (.slice A9 (k + 1) c9)) := hT9.put 2 (.slice A9 (k + 1) c9)
        have hRn := hR9.grown s4 (fun e => hne32 (by cases e; rfl)) (fun k e => by cases e; exact .inl hgl3)
        have hon := honC.put7 hT9.box s4
        have hbn := hbC.read hT9.box (by decide) s4
        clear s4 hT9 hR9 honC hbC f2 u2 hlt9
        generalize wC.setCell ⟨g3, 2, none⟩ (.slice A9 (k + 1) c9) = wn at *
        have HRLn : Hid ((rs ++ [(⟨vc, vv, vq, lo2, hi2, ps⟩ : Rng)]).length = k + 1) := Lib.hid (by rw [List.length_append, HRL.out]; rfl)
        go_wp2_with fail
        go_roundw
        case rel => exact ⟨k + 1, rs ++ [(⟨vc, vv, vq, lo2, hi2, ps⟩ : Rng)], lo2, st2, _, by omega, by first | (with_reducible rfl) | go_num, rfl, HRLn, Lib.hid (.inr hn8), HRSn, HOK2, hTn, hRn, hon, hbn⟩
        case measure => simp [intOf]; omega
end Go.Proofs.Ytokmbdeafjmcjaa
