/- The specification's decoder of location lists: the walk; the walk of LocsDecodes. -/
import Derived.Test.YtokmbdeafjmcjaaLcZa
import Derived.Test.YtokmbdeafjmcjaaLcR
import Derived.Test.YtokmbdeafjmcjaaLcU
namespace Go.Proofs.Ytokmbdeafjmcjaa
open Go.RowKit
set_option linter.unusedVariables false
set_option linter.unusedSimpArgs false

theorem plcsS_len {b : List UInt8} : ∀ (n : Nat) (s : RS18), (plcsS b n s).1.length ≤ n
  | 0, s => by simp [plcsS]
  | n + 1, s => by
    unfold plcsS
    split
    · simp
    · have := plcsS_len (b := b) n (placeS b s).2
      simp only [preS, List.length_append, List.length_singleton]
      omega
theorem rngT_places {b : List UInt8} {c v q lo hi : Int} {k : Int × RS18} (h : 0 ≤ k.1 ∧ k.1 ≤ 9223372036854775807) : (rngT b c v q lo hi k).1.places.length ≤ 9223372036854775807 := by
  have := plcsS_len (b := b) k.1.toNat (limK 40 k)
  unfold rngT
  simp only
  omega
theorem rngsS_len {b : List UInt8} : ∀ (n : Nat) (was : Int) (s : RS18), (rngsS b n was s).1.length ≤ n ∧ ∀ r ∈ (rngsS b n was s).1, r.places.length ≤ 9223372036854775807
  | 0, was, s => by simp [rngsS]
  | n + 1, was, s => by
    unfold rngsS
    split
    · simp
    · obtain ⟨h1, h2⟩ := rngsS_len (b := b) n (rngS b was s).1.lo (rngS b was s).2
      simp only [preS, List.length_append, List.length_singleton]
      refine ⟨by omega, fun r hr => ?_⟩
      rcases List.mem_append.1 hr with hr | hr
      · simp only [List.mem_singleton] at hr
        subst hr
        exact rngT_places (uintS_range b _)
      · exact h2 r hr
theorem listS_I (b : List UInt8) (s : RS18) : (listS b s).1.I := by
  have h1 := smallS_range b s
  have h2 := smallS_range b (smallS b s).2
  have h3 := uintS_range b (smallS b (smallS b s).2).2
  unfold listS listT
  simp only
  obtain ⟨h4, h5⟩ := rngsS_len (b := b) (uintS b (smallS b (smallS b s).2).2).1.toNat (smallS b s).1 (limK 8000 (uintS b (smallS b (smallS b s).2).2))
  exact ⟨by simp only; omega, by simp only; omega, by simp only; omega, h5⟩
theorem listS_ok {b : List UInt8} {s : RS18} (h : OKS b s) : OKS b (listS b s).2 := by
  have hr : ∀ (n : Nat) (was : Int) {s : RS18}, OKS b s → OKS b (rngsS b n was s).2 := by
    intro n
    induction n with
    | zero => intro was s h; exact h
    | succ n ih =>
      intro was s h
      unfold rngsS
      split
      · exact h
      · refine ih _ ?_
        unfold rngS rngT
        exact plcsS_ok _ (limK_ok (uintS_ok (smallS_ok (smallS_ok (smallS_ok (smallS_ok (smallS_ok h)))))))
  unfold listS listT
  exact hr _ _ (limK_ok (uintS_ok (smallS_ok (smallS_ok h))))
set_option maxHeartbeats 40000000 in
set_option maxRecDepth 100000 in
theorem refDecode19_any (x : Value) (b : List UInt8) (w : World) (hx : InB w x b) (hl : b.length ≤ 1000000) : Calls Try.prog 74 #[x] w (DecPPost (decS19 b) w) := by
  obtain ⟨A, c, rfl, _, _⟩ := id hx
  obtain ⟨n0, hn0⟩ : ∃ n0, n0 = b.length := ⟨_, rfl⟩
  have HL := Lib.hid hl
  have HN0 := Lib.hid hn0
  have HX := Lib.hid hx
  rw [← hn0] at hl ⊢
  clear hx
  go_enter Try.func74, Try.ntmps74
  by_cases h6 : 60000 < n0
  case pos =>
    have d6 : decide ((60000 : Int) < (n0 : Int)) = true := by simp; omega
    have HP : Hid (decS19 b = .error 5) := Lib.hid (by unfold decS19; rw [if_pos (by rw [← hn0]; exact h6)])
    clear hn0
    go_wp2_with fail
    refine bodyPost_ret (by simp [results, Try.results74, go_sem]; rfl) rfl ?_
    rw [HP.out]
    exact ⟨rfl, Ext.refl _⟩
  have d6 : decide ((60000 : Int) < (n0 : Int)) = false := by simp; omega
  have HDS : Hid (decS19 b = decW19 b (listsS b (uintS b ⟨0, 0⟩).1.toNat (limK 8 (uintS b ⟨0, 0⟩)))) := Lib.hid (by unfold decS19; rw [if_neg (by rw [← hn0]; exact h6)])
  have hx0 : InB w (.slice A n0 c) b := by have := HX.out; rw [← HN0.out] at this; exact this
  have HX0 := Lib.hid hx0
  clear hn0 h6 HX hx0
  obtain ⟨X, hX⟩ : ∃ X, X = Value.slice A n0 c := ⟨_, rfl⟩
  go_upto_region 4 with fail
  obtain ⟨gr, hgr⟩ : ∃ g, g = w.heap.size := ⟨_, rfl⟩
  have hB : RBlk gr (.slice A n0 c) ⟨0, 0⟩ (w.alloc (.cells #[.slice A n0 c, .int .i64 0, .int .i64 0] 135)) := by rw [hgr]; exact heap_alloc_new w (.cells #[.slice A n0 c, .int .i64 0, .int .i64 0] 135)
  have hE := (Ext.refl w).alloc (.cells #[.slice A n0 c, .int .i64 0, .int .i64 0] 135)
  rw [← hgr]
  have hlow : w.heap.size ≤ gr := by omega
  clear hgr hX
  generalize w.alloc (.cells #[.slice A n0 c, .int .i64 0, .int .i64 0] 135) = w1 at *
  go_wp2_with fail
  refine (rUint_any gr _ b ⟨0, 0⟩ w1 (HX0.out.ext hE) hB HL.out).mono ?_
  rintro en w2 ⟨rfl, hb2, hg2⟩
  have hE2 := hE.grown hg2 (fun k e => by cases e; exact hlow)
  have hur := uintS_range b ⟨0, 0⟩
  have hok1 := uintS_ok (b := b) (s := ⟨0, 0⟩) (fun _ => by simp)
  obtain ⟨⟨nv, s1⟩, hu⟩ : ∃ u, u = uintS b ⟨0, 0⟩ := ⟨_, rfl⟩
  rw [← hu] at hb2 hur HDS hok1 ⊢
  dsimp only at hb2 hur HDS hok1 ⊢
  obtain ⟨n, rfl⟩ : ∃ n : Nat, nv = (n : Int) := ⟨nv.toNat, by omega⟩
  rw [Int.toNat_natCast] at HDS
  clear hu hB hE hg2
  have HL1 : ∀ s2, limK 8 ((n : Int), s1) = s2 → Hid (s2.e = 0 → n ≤ 8) := fun s2 h => Lib.hid (fun h0 => by
    unfold limK at h
    simp only at h
    by_cases h8 : (8 : Int) < (n : Int)
    · rw [if_pos h8] at h
      unfold failS at h
      split at h
      · rw [← h] at h0; cases h0
      · rename_i h9
        rw [← h] at h0
        exact absurd h0 h9
    · omega)
  go_upto_if 17 with fail
  go_cut [17] (fun _ wx => ∃ s2, limK 8 ((n : Int), s1) = s2 ∧ RBlk gr (.slice A n0 c) s2 wx ∧ Ext w wx)
  case first =>
    by_cases h8 : 8 < n
    · have d8 : decide ((8 : Int) < (n : Int)) = true := by simp; omega
      have HP : Hid (limK 8 ((n : Int), s1) = failS 5 s1) := Lib.hid (by unfold limK; rw [if_pos (show (8 : Int) < (n : Int) by omega)])
      go_wp2_with fail
      refine (rFail_any gr _ 5 s1 w2 hb2).mono ?_
      rintro en w3 ⟨⟨v3, rfl⟩, hb3, hg3⟩
      go_wp2_with fail
      go_meet
      exact ⟨_, HP.out, hb3, hE2.grown hg3 (fun k e => by cases e; exact hlow)⟩
    · have d8 : decide ((8 : Int) < (n : Int)) = false := by simp; omega
      have HP : Hid (limK 8 ((n : Int), s1) = s1) := Lib.hid (by unfold limK; rw [if_neg (show ¬ (8 : Int) < (n : Int) by omega)])
      go_wp2_with fail
      go_meet
      exact ⟨_, HP.out, hb2, hE2⟩
  obtain ⟨wI, rfl⟩ : ∃ W : World, W = wc := ⟨_, rfl⟩
  clear hb2 hE2
  obtain ⟨s2, hs2, hb2, hE2⟩ := hcut
  have HN8 := HL1 s2 hs2
  have HOK2 : Hid (OKS b s2) := Lib.hid (by rw [← hs2]; exact limK_ok hok1)
  rw [hs2] at HDS
  clear HL1 hs2
  go_wp2_with fail
  go_loopw [6, 7] (fun v i wr => ∃ (j : Nat) (l : List PTab) (s : RS18), j ≤ n ∧ i = .int .i64 (j : Int) ∧ Hid (l.length = j ∧ (j ≤ 8)) ∧ Hid (listsS b n s2 = preS l (listsS b (n - j) s)) ∧ Hid (∀ t ∈ l, t.I) ∧ Hid (OKS b s) ∧ Hid (s.e = 0 → n ≤ 8) ∧ RBlk gr (.slice A n0 c) s wr ∧ POwn w.heap.size wr v l ∧ Ext w wr) (fun _ i _ => n - (intOf i).toNat)
  case atStart => exact ⟨0, [], s2, by omega, rfl, Lib.hid ⟨rfl, by omega⟩, Lib.hid (by rw [preS_nil, Nat.sub_zero]), Lib.hid (by simp), HOK2, HN8, hb2, POwn.nil _ _, hE2⟩
  case round =>
    clear hb2 hE2 HN8
    obtain ⟨j, l, s, hj, rfl, HJ, HT, HR, HOK, HN8, hrd, hT, hX⟩ := hrel
    obtain ⟨wo, rfl⟩ : ∃ wo : World, wo = wr := ⟨_, rfl⟩
    obtain ⟨k0, k1, k2⟩ := blk3' hrd
    go_upto_region 9 with fail
    go_cut [29] (fun sv wx => ∃ d : Bool, sv = .bool d ∧ (d = true ↔ j < n ∧ s.e = 0) ∧ wx = wo)
    case first =>
      by_cases h1 : j < n
      · have d1 : decide ((j : Int) < (n : Int)) = true := by simp; omega
        by_cases h2 : s.e = 0
        · have e2 : (s.e == 0) = true := by simpa using h2
          have H2 := Lib.hid h2
          clear h2
          go_wp2_with fail
          go_meet
          exact ⟨true, rfl, ⟨fun _ => ⟨by omega, H2.out⟩, fun _ => rfl⟩, rfl⟩
        · have e2 : (s.e == 0) = false := by simpa using h2
          have H2 := Lib.hid h2
          clear h2
          go_wp2_with fail
          go_meet
          exact ⟨false, rfl, ⟨fun h => (by cases h), fun h => absurd h.2 H2.out⟩, rfl⟩
      · have d1 : decide ((j : Int) < (n : Int)) = false := by simp; omega
        go_wp2_with fail
        go_meet
        exact ⟨false, rfl, ⟨fun h => (by cases h), fun h => absurd h.1 (by omega)⟩, rfl⟩
    obtain ⟨d, rfl, hd, hwe⟩ := hcut
    subst hwe
    obtain ⟨wO, rfl⟩ : ∃ W : World, W = wc := ⟨_, rfl⟩
    clear k0 k1 k2
    cases d with
    | true =>
      obtain ⟨hlt, hse⟩ := hd.1 rfl
      have hn8 := HN8.out hse
      have HSN : Hid (n - j = (n - (j + 1)) + 1) := Lib.hid (by omega)
      have HT2 : Hid (listsS b n s2 = preS (l ++ [(listS b s).1]) (listsS b (n - (j + 1)) (listS b s).2)) := Lib.hid (by
        rw [HT.out, HSN.out]
        conv => lhs; unfold listsS
        rw [if_neg (by rw [hse]; simp), preS_preS])
      clear hd hse HN8 HT HSN
      have hst0 : St [gr] wO (fun W => InB W (.slice A n0 c) b) := fun W hk => HX0.out.ext (hk.ext hX hX.size (fun i hi => by simp only [List.mem_cons, List.not_mem_nil, or_false] at hi; subst hi; exact hlow))
      go_wp2_with fail
      refine (readList_any gr _ b s wO hst0 hrd HOK.out HL.out).mono ?_
      rintro en w2 ⟨y2, rfl, ho2, hb2, hk2⟩
      have HTI := Lib.hid (listS_I b s)
      have HOK3 := Lib.hid (listS_ok HOK.out)
      obtain ⟨zl, hzl0⟩ : ∃ u, u = listS b s := ⟨_, rfl⟩
      rw [← hzl0] at ho2 hb2 HTI HOK3 HT2 ⊢
      clear hzl0
      obtain ⟨tt, s3⟩ := zl
      dsimp only at ho2 hb2 HTI HOK3 HT2 ⊢
      obtain ⟨AY, cY, hyv⟩ := ho2.in_.form
      obtain ⟨m2, hm2⟩ : ∃ m, m = tt.ranges.length := ⟨_, rfl⟩
      rw [← hm2] at hyv
      subst hyv
      have hX2 : Ext w w2 := hk2.toX hX hlow
      obtain ⟨zt, hz1, hz2, hz3⟩ := hk2.pownR hT hrd
      have HZ1 := Lib.hid hz1
      have HZ3 := Lib.hid hz3
      have hzl : zt.length ≤ 8 := by have h1 : zt.length = l.length := by rw [← hz1]; simp
                                     have := HJ.out; omega
      clear hz1 hz3 hm2 hk2 hst0
      have hA5 := (Ext.refl w2).alloc (.cells #[.int .i64 tt.lo, .int .i64 tt.hi, .slice AY m2 cY] 66)
      have hin5 : InR ptabCells (w2.alloc (.cells #[.int .i64 tt.lo, .int .i64 tt.hi, .slice AY m2 cY] 66)) (.slice (some ⟨w2.heap.size, 0, none⟩) 1 1) [(tt, .slice AY m2 cY)] := (OwnR_one (f := ptabCells) w2 (tt, .slice AY m2 cY) rfl 66).inR
      have hXM := hX2.trans hA5
      have hsz5 := hXM.size
      go_wp2_with first | refine wpList_rowOne elem_pl rfl (.tmp 34) rfl #[.int .i64 tt.lo, .int .i64 tt.hi, .slice AY m2 cY] rfl rfl (by omega) ?_ | (at_builtin; go_must (refine wpList_appendR elem_pl rfl (.tmp 32) (.tmp 35) rfl w.heap.size _ zt rfl (hz2.ext hA5) _ [(tt, .slice AY m2 cY)] rfl hin5 (fun _ _ => rfl) (fun b hb u hu => by simp only [List.mem_singleton] at hb; subst hb; simp only [ptabCells, List.mem_cons, List.not_mem_nil, or_false] at hu; rcases hu with rfl | rfl | rfl <;> rfl) (by simp only [List.length_cons, List.length_nil]; omega) (by omega) hsz5 (Hold.out ?_)))
      refine Hold.mk fun v9 w9 ho9 hg9 => ?_
      have hTn : POwn w.heap.size w9 v9 (l ++ [tt]) := by
        refine ⟨zt ++ [(tt, .slice AY m2 cY)], by rw [List.map_append, HZ1.out]; rfl, ho9, fun z hz => ?_⟩
        rcases List.mem_append.1 hz with hz | hz
        · exact ((HZ3.out z hz).ext hA5).beside (hz2.ext hA5) hg9.grown
        · simp only [List.mem_singleton] at hz
          subst hz
          exact ((ho2.low hX.size).ext hA5).beside (hz2.ext hA5) hg9.grown
      have hb5 : RBlk gr (.slice A n0 c) s3 (w2.alloc (.cells #[.int .i64 tt.lo, .int .i64 tt.hi, .slice AY m2 cY] 66)) := hA5.heap hb2
      have hrd9 : RBlk gr (.slice A n0 c) s3 w9 := blk_grown hb5 hg9.grown ((hz2.ext hA5).ne_blk hb5 (by decide)).symm
      have hX9 : Ext w w9 := hg9.ext hXM hz2.ge
      have HJ9 : Hid ((l ++ [tt]).length = j + 1 ∧ j + 1 ≤ 8) := Lib.hid ⟨by rw [List.length_append, HJ.out.1]; rfl, by omega⟩
      have HR9 : Hid (∀ t ∈ l ++ [tt], t.I) := Lib.hid (fun s hs => by
        rcases List.mem_append.1 hs with hs | hs
        · exact HR.out s hs
        · simp only [List.mem_singleton] at hs
          subst hs
          exact HTI.out)
      have HN9 : Hid (s3.e = 0 → n ≤ 8) := Lib.hid (fun _ => hn8)
      clear hA5 hin5 hXM hsz5 ho9 hg9 hz2 hT hrd hb2 ho2 hb5 hX2 hX hn8
      go_wp2_with fail
      go_roundw
      case rel => exact ⟨j + 1, l ++ [tt], s3, by omega, by first | (with_reducible rfl) | go_num, HJ9, HT2, HR9, HOK3, HN9, hrd9, hTn, hX9⟩
      case measure => simp [intOf]; omega
    | false =>
      have HTS : Hid (decS19 b = decW19 b (l, s)) := Lib.hid (by
        rw [HDS.out, HT.out, listsS_end]
        · simp [preS]
        · by_cases h0 : n - j = 0
          · exact .inl h0
          · refine .inr (fun h2 => ?_)
            have := hd.2 ⟨by omega, h2⟩
            cases this)
      clear hd HT HN8 HOK
      obtain ⟨k0, k1, k2⟩ := blk3' hrd
      by_cases hse : s.e = 0
      case neg =>
        have e1 : (s.e == 0) = false := by simpa using hse
        have e2 : (s.e != 0) = true := by simpa using hse
        have HP : Hid (decS19 b = .error s.e) := Lib.hid (by rw [HTS.out]; exact decW19_err rfl hse)
        clear hse
        go_upto_region 17 with fail
        go_quiet (fail)
        go_wp2_with fail
        refine bodyPost_ret (by simp [results, Try.results74, go_sem]; rfl) rfl ?_
        rw [HP.out]
        exact ⟨rfl, (hX).drewN _⟩
      rw [hse] at k2
      have e1 : ((0 : Int) == 0) = true := rfl
      have e2 : ((0 : Int) != 0) = false := rfl
      by_cases hp : s.p < (n0 : Int)
      case pos =>
        have dp : decide (s.p < (n0 : Int)) = true := by simpa using hp
        have HP : Hid (decS19 b = .error 4) := Lib.hid (by
          rw [HTS.out]
          unfold decW19
          simp only [hse]
          rw [if_neg (by simp), if_pos (.inl (by rw [← HN0.out]; exact hp))])
        clear hp
        go_wp2_with fail
        refine (rFail_any gr _ 4 s wO hrd).mono ?_
        rintro en w3 ⟨⟨v3, rfl⟩, hb3, hg3⟩
        have hX3 := hX.grown hg3 (fun k e => by cases e; exact hlow)
        have hf : failS 4 s = ⟨s.p, 4⟩ := by unfold failS; rw [if_pos hse]
        rw [hf] at hb3
        obtain ⟨j0, j1, j2⟩ := blk3' hb3
        dsimp only at j1 j2
        have e3 : ((4 : Int) == 0) = false := rfl
        have e4 : ((4 : Int) != 0) = true := rfl
        clear k0 k1 k2 hf hg3 hse hb3
        go_upto_region 17 with fail
        go_quiet (fail)
        go_wp2_with fail
        refine bodyPost_ret (by simp [results, Try.results74, go_sem]; rfl) rfl ?_
        rw [HP.out]
        exact ⟨rfl, (hX3).drewN _⟩
      have dp : decide (s.p < (n0 : Int)) = false := by simpa using hp
      have HQ : Hid (¬ s.p < (b.length : Int)) := Lib.hid (by rw [← HN0.out]; exact hp)
      have HSE := Lib.hid hse
      have hll : l.length ≤ 9223372036854775807 := by have := HJ.out; omega
      clear hp hse
      go_wp2_with fail
      refine (refRight19_any l _ wO hT.in_ HR.out hll).mono ?_
      rintro en w5 ⟨r, rfl, hr, hx5⟩
      have hX5 := hX.trans hx5
      have hrd5 : RBlk gr (.slice A n0 c) s w5 := hx5.heap hrd
      obtain ⟨j0, j1, j2⟩ := blk3' hrd5
      rw [HSE.out] at j2
      clear k0 k1 k2
      cases r with
      | false =>
        have HP : Hid (decS19 b = .error 4) := Lib.hid (by
          rw [HTS.out]
          unfold decW19
          simp only [HSE.out]
          rw [if_neg (by simp), if_pos (.inr (fun h => by have := hr.2 h; cases this))])
        clear hr
        go_wp2_with fail
        refine (rFail_any gr _ 4 s w5 hrd5).mono ?_
        rintro en w3 ⟨⟨v3, rfl⟩, hb3, hg3⟩
        have hX3 := hX5.grown hg3 (fun k e => by cases e; exact hlow)
        have hf : failS 4 s = ⟨s.p, 4⟩ := by unfold failS; rw [if_pos HSE.out]
        rw [hf] at hb3
        clear j0 j1 j2
        obtain ⟨j0, j1, j2⟩ := blk3' hb3
        dsimp only at j1 j2
        have e4 : ((4 : Int) != 0) = true := rfl
        clear hf hg3 hb3
        go_upto_region 17 with fail
        go_quiet (fail)
        go_wp2_with fail
        refine bodyPost_ret (by simp [results, Try.results74, go_sem]; rfl) rfl ?_
        rw [HP.out]
        exact ⟨rfl, (hX3).drewN _⟩
      | true =>
        have HP : Hid (decS19 b = .ok l) := Lib.hid (by
          rw [HTS.out]
          unfold decW19
          simp only [HSE.out]
          rw [if_neg (by simp), if_neg (fun h => h.elim (fun h1 => by have := HQ.out; omega) (fun h2 => h2 (hr.1 rfl)))])
        clear hr
        go_wp2_with fail
        refine bodyPost_ret (by simp [results, Try.results74, go_sem]; rfl) rfl ?_
        rw [HP.out]
        exact ⟨⟨_, rfl, hT.ext hx5⟩, hX5⟩
end Go.Proofs.Ytokmbdeafjmcjaa
