/- The walk of locs.Decode. -/
import Derived.Test.YtokmbdeafjmcjaaLcK
namespace Go.Proofs.Ytokmbdeafjmcjaa
open Go.RowKit
set_option linter.unusedVariables false
set_option linter.unusedSimpArgs false

def DecPPost (r : Except Int (List PTab)) (w : World) (en : Ending) (w' : World) : Prop :=
  match r with
  | .error e => en = .returned (.tuple #[.slice none 0 0, .int .i64 e]) ∧ Ext w w'
  | .ok l => (∃ y, en = .returned (.tuple #[y, .int .i64 0]) ∧ POwn w.heap.size w' y l) ∧ Ext w w'
theorem Kept.pown2 {b0 gr : Nat} {w W : World} {v : Value} {l : List PTab} {C : Array Value} {fr : Nat × Nat} (h : Kept w.heap.size [gr] w W) (ho : POwn b0 w v l) (hr : w.heap[gr]? = some (.cells C 147 fr)) : POwn b0 W v l := by
  obtain ⟨zs, h1, h2, h3⟩ := ho
  exact ⟨zs, h1, h.own1 h2 hr (by decide), fun z hz => h.rngs (h3 z hz) hr⟩
theorem RngsOwn.beside {base b2 : Nat} {w w' : World} {v v2 : Value} {l : List Rng} {zt : List (PTab × Value)} (h : RngsOwn base w v l) (hr : OwnR ptabCells 3 66 b2 w v2 zt) (hg : w.grownBy w' v2.ownBlock) : RngsOwn base w' v l := by
  obtain ⟨zs, h1, h2, h3⟩ := h
  exact ⟨zs, h1, h2.kept hg (row_ne h2 hr (by decide)), fun z hz => (h3 z hz).kept hg (row_ne (h3 z hz) hr (by decide))⟩
set_option maxHeartbeats 40000000 in
set_option maxRecDepth 100000 in
theorem PDecode_any (x : Value) (b : List UInt8) (w : World) (hx : InB w x b) (hl : b.length ≤ 1000000) : Calls Try.prog 66 #[x] w (DecPPost (decP b) w) := by
  obtain ⟨A, c, rfl, _, _⟩ := id hx
  obtain ⟨n0, hn0⟩ : ∃ n0, n0 = b.length := ⟨_, rfl⟩
  have HL := Lib.hid hl
  have HN0 := Lib.hid hn0
  have HX := Lib.hid hx
  rw [← hn0] at hl ⊢
  clear hx
  go_enter Try.func66, Try.ntmps66
  by_cases h6 : 60000 < n0
  case pos =>
    have d6 : decide ((60000 : Int) < (n0 : Int)) = true := by simp; omega
    have HP : Hid (decP b = .error 5) := Lib.hid (by unfold decP; rw [if_pos (by rw [← hn0]; exact h6)])
    clear hn0
    go_wp2_with fail
    refine bodyPost_ret (by simp [results, Try.results66, go_sem]; rfl) rfl ?_
    rw [HP.out]
    exact ⟨rfl, Ext.refl _⟩
  have d6 : decide ((60000 : Int) < (n0 : Int)) = false := by simp; omega
  have H6 : Hid (¬ 60000 < b.length) := Lib.hid (by rw [← hn0]; exact h6)
  have hx0 : InB w (.slice A n0 c) b := by have := HX.out; rw [← HN0.out] at this; exact this
  clear hn0 h6 HX
  go_upto_region 4 with fail
  obtain ⟨gr, hgr⟩ : ∃ g, g = w.heap.size := ⟨_, rfl⟩
  have hB := heap_alloc_new w (.cells #[.slice A n0 c, .int .i64 0] 147)
  have hE := (Ext.refl w).alloc (.cells #[.slice A n0 c, .int .i64 0] 147)
  rw [← hgr] at hB ⊢
  have hlow : w.heap.size ≤ gr := by omega
  have HX0 := Lib.hid hx0
  clear hgr hx0
  generalize w.alloc (.cells #[.slice A n0 c, .int .i64 0] 147) = w1 at *
  go_wp2_with fail
  have hcnt := lcCount_any gr _ b 0 8 w1 (HX0.out.ext hE) hB HL.out
  rcases hct : cntR 8 b 0 with e | ⟨cn, p1⟩
  · rw [hct] at hcnt
    refine hcnt.mono ?_
    rintro en w2 ⟨⟨v3, rfl⟩, he0, hg2⟩
    have hE2 := hE.grown hg2 (fun k e => by cases e; exact hlow)
    have HP : Hid (decP b = .error e) := Lib.hid (by unfold decP; rw [if_neg H6.out]; simp only [hct])
    have e0 : (e != 0) = true := by simpa using he0
    clear hct hcnt he0 hg2 hB hE
    go_wp2_with fail
    refine bodyPost_ret (by simp [results, Try.results66, go_sem]; rfl) rfl ?_
    rw [HP.out]
    exact ⟨rfl, hE2⟩
  rw [hct] at hcnt
  obtain ⟨hcn0, hcn1, hcn2⟩ := cntR_ok hct
  obtain ⟨n, rfl⟩ : ∃ n : Nat, cn = (n : Int) := ⟨cn.toNat, by omega⟩
  have HCT := Lib.hid hct
  refine hcnt.mono ?_
  rintro en w2 ⟨rfl, hb2, hg2⟩
  have hE2 := hE.grown hg2 (fun k e => by cases e; exact hlow)
  clear hct hcnt hg2 hB hE hcn0 hcn2
  go_wp2_with fail
  go_loopw [7, 25] (fun v i wr => ∃ (j : Nat) (l : List PTab) (q : Int), j ≤ n ∧ i = .int .i64 (j : Int) ∧ Hid (l.length = j) ∧ Hid (listsR b n p1 = preR l (listsR b (n - j) q)) ∧ Hid (∀ t ∈ l, t.R) ∧ wr.heap[gr]? = some (.cells #[.slice A n0 c, .int .i64 q] 147 (0, 0)) ∧ POwn w.heap.size wr v l ∧ Ext w wr) (fun _ i _ => n - (intOf i).toNat)
  case atStart => exact ⟨0, [], p1, by omega, rfl, Lib.hid rfl, Lib.hid (by rw [preR_nil, Nat.sub_zero]), Lib.hid (by simp), hb2, POwn.nil _ _, hE2⟩
  case round =>
    clear hb2 hE2
    obtain ⟨j, l, q, hj, rfl, HJ, HT, HR, hrd, hT, hX⟩ := hrel
    obtain ⟨wo, rfl⟩ : ∃ wo : World, wo = wr := ⟨_, rfl⟩
    by_cases hlt : j < n
    · have hij : (j : Int) < (n : Int) := by omega
      have HSN : Hid (n - j = (n - (j + 1)) + 1) := Lib.hid (by omega)
      have hst : St [gr] wo (fun W => InB W (.slice A n0 c) b) := fun W hk => HX0.out.ext (hk.ext hX hX.size (fun i hi => by simp only [List.mem_cons, List.not_mem_nil, or_false] at hi; subst hi; exact hlow))
      have htab := list_any gr _ b q wo hst hrd HL.out
      go_wp2_with fail
      rcases htr : listR' b q with e | ⟨t, q2⟩
      · rw [htr] at htab
        refine htab.mono ?_
        rintro en w3 ⟨⟨lo, hi, A2, n2, c2, rfl⟩, he0, hk3⟩
        have hX3 := hk3.ext hX hX.size (fun i hi => by simp only [List.mem_cons, List.not_mem_nil, or_false] at hi; subst hi; exact hlow)
        have HP : Hid (decP b = .error e) := Lib.hid (by
          unfold decP
          rw [if_neg H6.out]
          simp only [HCT.out, Int.toNat_natCast, HT.out, HSN.out]
          unfold listsR
          simp only [htr]
          rfl)
        have e0 : (e != 0) = true := by simpa using he0
        clear htr htab he0 hk3 hst hrd hT hX
        obtain ⟨hsto, hG, hXG⟩ := box_new (P := Try.prog) w3 66 #[.int .i64 0, .int .i64 0, .slice none 0 0] #[.int .i64 lo, .int .i64 hi, .slice A2 n2 c2] pl_size rfl (by simp [Value.oneCell'])
        go_upto_region 11 with first | refine wpList_store_run rfl 66 (.tmp 8) (.tmp 30) rfl _ _ _ rfl rfl hsto ?_
        have hX4 := hX3.trans hXG
        clear hsto hXG hX3
        generalize (w3.alloc (.cells #[.int .i64 0, .int .i64 0, .slice none 0 0] 66)).setRow w3.heap.size #[.int .i64 lo, .int .i64 hi, .slice A2 n2 c2] = w4 at *
        go_wp2_with fail
        refine bodyPost_ret (by simp [results, Try.results66, go_sem]; rfl) rfl ?_
        rw [HP.out]
        exact ⟨rfl, hX4⟩
      rw [htr] at htab
      have HTR := Lib.hid (listR'_ok htr)
      have HT2 : Hid (listsR b n p1 = preR (l ++ [t]) (listsR b (n - (j + 1)) q2)) := Lib.hid (by
        rw [HT.out, HSN.out]
        conv => lhs; unfold listsR
        simp only [htr]
        rw [preR_preR])
      refine htab.mono ?_
      rintro en w3 ⟨y, rfl, hs3, hrd3, hk3⟩
      have hX3 := hk3.ext hX hX.size (fun i hi => by simp only [List.mem_cons, List.not_mem_nil, or_false] at hi; subst hi; exact hlow)
      have hT3 := Kept.pown2 hk3 hT hrd
      have hs3' := hs3.low hX.size
      clear htr htab hst hk3 hX hT hrd hs3
      obtain ⟨A2, c2, hy⟩ := hs3'.in_.form
      obtain ⟨n2, hn2⟩ : ∃ n5, n5 = t.ranges.length := ⟨_, rfl⟩
      rw [← hn2] at hy
      subst hy
      clear hn2
      obtain ⟨hsto, hG, hXG⟩ := box_new (P := Try.prog) w3 66 #[.int .i64 0, .int .i64 0, .slice none 0 0] #[.int .i64 t.lo, .int .i64 t.hi, .slice A2 n2 c2] pl_size rfl (by simp [Value.oneCell'])
      go_upto_region 13 with first | refine wpList_store_run rfl 66 (.tmp 8) (.tmp 30) rfl _ _ _ rfl rfl hsto ?_
      obtain ⟨g8, hg8⟩ : ∃ g, g = w3.heap.size := ⟨_, rfl⟩
      rw [← hg8] at hG hXG ⊢
      generalize (w3.alloc (.cells #[.int .i64 0, .int .i64 0, .slice none 0 0] 66)).setRow g8 #[.int .i64 t.lo, .int .i64 t.hi, .slice A2 n2 c2] = w4 at *
      have hT4 := hT3.ext hXG
      have hX4 := hX3.trans hXG
      have hrd4 := hXG.heap hrd3
      have hs4 := hs3'.ext hXG
      clear hsto hXG hT3 hX3 hrd3 hs3' hg8
      obtain ⟨zt, hz1, hz2, hz3⟩ := hT4
      have HZ1 := Lib.hid hz1
      have HZ3 := Lib.hid hz3
      have hzl : zt.length ≤ 8 := by have h1 : zt.length = l.length := by rw [← hz1]; simp
                                     rw [h1, HJ.out]; omega
      clear hz1 hz3
      have hldt := run_loadAt_blk (P := Try.prog) w4 g8 66 66 _ (0, 0) _ hG Try.underlying66 rfl pl_size
      have hA5 := (Ext.refl w4).alloc (.cells #[.int .i64 t.lo, .int .i64 t.hi, .slice A2 n2 c2] 66)
      have hin5 : InR ptabCells (w4.alloc (.cells #[.int .i64 t.lo, .int .i64 t.hi, .slice A2 n2 c2] 66)) (.slice (some ⟨w4.heap.size, 0, none⟩) 1 1) [(t, .slice A2 n2 c2)] := (OwnR_one (f := ptabCells) w4 (t, .slice A2 n2 c2) rfl 66).inR
      have hsz5 := Nat.le_trans hX4.size hA5.size
      go_wp2_with first | refine wpList_load_run rfl 66 (.tmp 8) rfl _ _ rfl hldt ?_ | refine wpList_rowOne elem_pl rfl (.tmp 36) rfl #[.int .i64 t.lo, .int .i64 t.hi, .slice A2 n2 c2] rfl rfl (by omega) ?_ | (at_builtin; go_must (refine wpList_appendR elem_pl rfl (.tmp 35) (.tmp 37) rfl w.heap.size _ zt rfl (hz2.ext hA5) _ [(t, .slice A2 n2 c2)] rfl hin5 (fun _ _ => rfl) (fun a ha u hu => by simp only [List.mem_singleton] at ha; subst ha; simp only [ptabCells, List.mem_cons, List.not_mem_nil, or_false] at hu; rcases hu with rfl | rfl | rfl <;> rfl) (by simp only [List.length_cons, List.length_nil]; omega) (by omega) hsz5 (Hold.out ?_)))
      refine Hold.mk fun v9 w9 ho9 hg9 => ?_
      have hTn : POwn w.heap.size w9 v9 (l ++ [t]) := by
        refine ⟨zt ++ [(t, .slice A2 n2 c2)], by rw [List.map_append, HZ1.out]; rfl, ho9, fun z hz => ?_⟩
        rcases List.mem_append.1 hz with hz | hz
        · exact ((HZ3.out z hz).ext hA5).beside (hz2.ext hA5) hg9.grown
        · simp only [List.mem_singleton] at hz
          subst hz
          exact (hs4.ext hA5).beside (hz2.ext hA5) hg9.grown
      have hrd9 := blk_grown (hA5.heap hrd4) hg9.grown (fun e => hz2.ne_blk hrd4 (by decide) e.symm)
      have hX9 : Ext w w9 := hg9.ext (hX4.trans hA5) hz2.ge
      have HJ9 : Hid ((l ++ [t]).length = j + 1) := Lib.hid (by rw [List.length_append, HJ.out]; rfl)
      have HR9 : Hid (∀ s ∈ l ++ [t], s.R) := Lib.hid (fun s hs => by
        rcases List.mem_append.1 hs with hs | hs
        · exact HR.out s hs
        · simp only [List.mem_singleton] at hs
          subst hs
          exact HTR.out)
      clear hldt hA5 hin5 hsz5 ho9 hg9 hrd4 hX4 hz2 hs4 hG
      go_wp2_with fail
      go_roundw
      case rel => exact ⟨j + 1, l ++ [t], q2, by omega, by first | (with_reducible rfl) | go_num, HJ9, HT2, HR9, hrd9, hTn, hX9⟩
      case measure => simp [intOf]; omega
    · have hij : ¬ (j : Int) < (n : Int) := by omega
      have HTS : Hid (listsR b n p1 = .ok (l, q)) := Lib.hid (by
        have e : n - j = 0 := by omega
        rw [HT.out, e]
        simp [listsR, preR])
      have HD1 : Hid ((q < b.length ∨ ¬ RightP l) → decP b = .error 4) := Lib.hid (fun h => by
        unfold decP
        rw [if_neg H6.out]
        simp only [HCT.out, Int.toNat_natCast, HTS.out]
        rw [if_pos h])
      have HD2 : Hid (¬ (q < b.length ∨ ¬ RightP l) → decP b = .ok l) := Lib.hid (fun h => by
        unfold decP
        rw [if_neg H6.out]
        simp only [HCT.out, Int.toNat_natCast, HTS.out]
        rw [if_neg h])
      have hll : l.length ≤ 8 := by rw [HJ.out]; omega
      obtain ⟨nl, hnl⟩ : ∃ m, m = l.length := ⟨_, rfl⟩
      have hq1 := blk_at hrd 1 _ rfl
      clear HT
      by_cases hq : q < (n0 : Int)
      · have dq : decide (q < (n0 : Int)) = true := by simpa using hq
        have HP : Hid (decP b = .error 4) := Lib.hid (HD1.out (.inl (by rw [← HN0.out]; exact hq)))
        clear hq hnl
        go_wp2_with fail
        refine bodyPost_ret (by simp [results, Try.results66, go_sem]; rfl) rfl ?_
        rw [HP.out]
        exact ⟨rfl, hX⟩
      · have dq : decide (q < (n0 : Int)) = false := by simpa using hq
        have HQ : Hid (¬ q < (b.length : Int)) := Lib.hid (by rw [← HN0.out]; exact hq)
        clear hq hnl
        go_wp2_with fail
        refine (PRight_any l _ wo hT.in_ (fun t ht => (HR.out t ht).toI) (by omega)).mono ?_
        rintro en w5 ⟨r, rfl, hr, hx5⟩
        have hX5 := hX.trans hx5
        cases r with
        | false =>
          have HP : Hid (decP b = .error 4) := Lib.hid (HD1.out (.inr (fun h => by have := hr.2 h; cases this)))
          clear hr
          go_wp2_with fail
          refine bodyPost_ret (by simp [results, Try.results66, go_sem]; rfl) rfl ?_
          rw [HP.out]
          exact ⟨rfl, hX5⟩
        | true =>
          have HP : Hid (decP b = .ok l) := Lib.hid (HD2.out (fun h => h.elim (fun h1 => by have := HQ.out; omega) (fun h2 => h2 (hr.1 rfl))))
          clear hr
          go_wp2_with fail
          refine bodyPost_ret (by simp [results, Try.results66, go_sem]; rfl) rfl ?_
          rw [HP.out]
          exact ⟨⟨_, rfl, hT.ext hx5⟩, hX5⟩
end Go.Proofs.Ytokmbdeafjmcjaa
