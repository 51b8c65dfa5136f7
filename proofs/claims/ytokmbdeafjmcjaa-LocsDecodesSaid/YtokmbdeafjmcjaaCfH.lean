/- The walk of cfi.Decode, on any bytes. -/
import Derived.Test.YtokmbdeafjmcjaaCfG
namespace Go.Proofs.Ytokmbdeafjmcjaa
open Go.RowKit
set_option linter.unusedVariables false
set_option linter.unusedSimpArgs false

def DecFPost (r : Except Int (List FTab)) (w : World) (en : Ending) (w' : World) : Prop :=
  match r with
  | .error e => en = .returned (.tuple #[.slice none 0 0, .int .i64 e]) ∧ Ext w w'
  | .ok l => (∃ y, en = .returned (.tuple #[y, .int .i64 0]) ∧ FOwn w.heap.size w' y l) ∧ Ext w w'
/-- what bytes are decoded to: small numbers, few rows -/
structure FTab.R (t : FTab) : Prop where
  lo : 0 ≤ t.lo ∧ t.lo ≤ 1099511627776
  hi : 0 ≤ t.hi ∧ t.hi ≤ 1099511627776
  steps : t.steps.length ≤ 8000
  objs : t.objs.length ≤ 8000
theorem stepsR_len {b : List UInt8} : ∀ {n : Nat} {last p q : Int} {l : List Stp}, stepsR b n last p = .ok (l, q) → l.length = n
  | 0, last, p, q, l, h => by
    unfold stepsR at h
    injection h with h
    injection h with h1 h2
    subst h1
    rfl
  | n + 1, last, p, q, l, h => by
    unfold stepsR at h
    rcases h1 : numsR b 2 p with e | ⟨vs, p1⟩
    · rw [h1] at h; cases h
    · obtain ⟨a, o, rfl⟩ := list2 (numsR_ok h1).1
      rw [h1] at h
      simp only at h
      rcases h2 : stepsR b n (a + last) p1 with e | ⟨ws, p2⟩
      · rw [h2] at h; cases h
      · rw [h2] at h
        simp only [preR] at h
        injection h with h
        injection h with h3 h4
        subst h3
        simp [stepsR_len h2]
theorem objsR_len {b : List UInt8} : ∀ {n : Nat} {p q : Int} {l : List Obj}, objsR b n p = .ok (l, q) → l.length = n
  | 0, p, q, l, h => by
    unfold objsR at h
    injection h with h
    injection h with h1 h2
    subst h1
    rfl
  | n + 1, p, q, l, h => by
    unfold objsR at h
    rcases h1 : numsR b 4 p with e | ⟨vs, p1⟩
    · rw [h1] at h; cases h
    · obtain ⟨a, c, d, o, rfl⟩ := list4 (numsR_ok h1).1
      rw [h1] at h
      simp only at h
      rcases h2 : objsR b n p1 with e | ⟨ws, p2⟩
      · rw [h2] at h; cases h
      · rw [h2] at h
        simp only [preR] at h
        injection h with h
        injection h with h3 h4
        subst h3
        simp [objsR_len h2]
theorem tabR_ok {b : List UInt8} {p q : Int} {t : FTab} (h : tabR b p = .ok (t, q)) : t.R := by
  unfold tabR at h
  rcases h1 : numsR b 2 p with e | ⟨vs, p1⟩
  · rw [h1] at h; cases h
  · obtain ⟨hl, hr⟩ := numsR_ok h1
    obtain ⟨lo, hi, rfl⟩ := list2 hl
    rw [h1] at h
    simp only at h
    rcases h2 : cntR 8000 b p1 with e | ⟨n, p2⟩
    · rw [h2] at h; cases h
    · rw [h2] at h
      simp only at h
      rcases h3 : stepsR b n.toNat lo p2 with e | ⟨ss, p3⟩
      · rw [h3] at h; cases h
      · rw [h3] at h
        simp only at h
        rcases h4 : cntR 8000 b p3 with e | ⟨m, p4⟩
        · rw [h4] at h; cases h
        · rw [h4] at h
          simp only at h
          rcases h5 : objsR b m.toNat p4 with e | ⟨os, p5⟩
          · rw [h5] at h; cases h
          · rw [h5] at h
            simp only at h
            injection h with h
            injection h with h6 h7
            subst h6
            have h8 := stepsR_len h3
            have h9 := objsR_len h5
            have h10 := cntR_ok h2
            have h11 := cntR_ok h4
            exact ⟨hr lo (by simp), hr hi (by simp), by simp only; omega, by simp only; omega⟩
theorem FTab.R.toI {t : FTab} (h : t.R) : t.I := by
  have h1 := h.lo
  have h2 := h.hi
  have h3 := h.steps
  have h4 := h.objs
  exact ⟨by omega, by omega, by omega, by omega⟩
theorem Kept.fown2 {b0 gr : Nat} {w W : World} {v : Value} {l : List FTab} {C : Array Value} {fr : Nat × Nat} (h : Kept w.heap.size [gr] w W) (ho : FOwn b0 w v l) (hr : w.heap[gr]? = some (.cells C 122 fr)) : FOwn b0 W v l := by
  obtain ⟨zs, h1, h2, h3⟩ := ho
  have key : ∀ {α : Type} {f : α → List Value} {k : Nat} {e : TypeId} {v : Value} {l : List α}, e ≠ 122 → OwnR f k e b0 w v l → OwnR f k e b0 W v l := fun hne ho => h.ownR ho (fun i hi => ⟨ho.lt i hi, fun hm => by
    simp only [List.mem_cons, List.not_mem_nil, or_false] at hm
    subst hm
    exact ho.ne_blk hr hne hi⟩)
  exact ⟨zs, h1, key (by decide) h2, fun z hz => ⟨key (by decide) (h3 z hz).1, key (by decide) (h3 z hz).2⟩⟩
set_option maxHeartbeats 40000000 in
set_option maxRecDepth 100000 in
theorem FDecode_any (x : Value) (b : List UInt8) (w : World) (hx : InB w x b) (hl : b.length ≤ 1000000) : Calls Try.prog 45 #[x] w (DecFPost (decF b) w) := by
  obtain ⟨A, c, rfl, _, _⟩ := id hx
  obtain ⟨n0, hn0⟩ : ∃ n0, n0 = b.length := ⟨_, rfl⟩
  have HL := Lib.hid hl
  have HN0 := Lib.hid hn0
  have HX := Lib.hid hx
  rw [← hn0] at hl ⊢
  clear hx
  go_enter Try.func45, Try.ntmps45
  by_cases h6 : 60000 < n0
  case pos =>
    have d6 : decide ((60000 : Int) < (n0 : Int)) = true := by simp; omega
    have HP : Hid (decF b = .error 5) := Lib.hid (by unfold decF; rw [if_pos (by rw [← hn0]; exact h6)])
    clear hn0
    go_wp2_with fail
    refine bodyPost_ret (by simp [results, Try.results45, go_sem]; rfl) rfl ?_
    rw [HP.out]
    exact ⟨rfl, Ext.refl _⟩
  have d6 : decide ((60000 : Int) < (n0 : Int)) = false := by simp; omega
  have H6 : Hid (¬ 60000 < b.length) := Lib.hid (by rw [← hn0]; exact h6)
  have hx0 : InB w (.slice A n0 c) b := by have := HX.out; rw [← HN0.out] at this; exact this
  clear hn0 h6 HX
  go_upto_region 4 with fail
  obtain ⟨gr, hgr⟩ : ∃ g, g = w.heap.size := ⟨_, rfl⟩
  have hB := heap_alloc_new w (.cells #[.slice A n0 c, .int .i64 0] 122)
  have hE := (Ext.refl w).alloc (.cells #[.slice A n0 c, .int .i64 0] 122)
  rw [← hgr] at hB ⊢
  have hlow : w.heap.size ≤ gr := by omega
  have HX0 := Lib.hid hx0
  clear hgr hx0
  generalize w.alloc (.cells #[.slice A n0 c, .int .i64 0] 122) = w1 at *
  go_wp2_with fail
  have hcnt := cfCount_any gr _ b 0 8 w1 (HX0.out.ext hE) hB HL.out
  rcases hct : cntR 8 b 0 with e | ⟨cn, p1⟩
  · rw [hct] at hcnt
    refine hcnt.mono ?_
    rintro en w2 ⟨⟨v3, rfl⟩, he0, hg2⟩
    have hE2 := hE.grown hg2 (fun k e => by cases e; exact hlow)
    have HP : Hid (decF b = .error e) := Lib.hid (by unfold decF; rw [if_neg H6.out]; simp only [hct])
    have e0 : (e != 0) = true := by simpa using he0
    clear hct hcnt he0 hg2 hB hE
    go_wp2_with fail
    refine bodyPost_ret (by simp [results, Try.results45, go_sem]; rfl) rfl ?_
    rw [HP.out]
    exact ⟨rfl, hE2⟩
  rw [hct] at hcnt
  obtain ⟨hcn0, hcn1, hcn2⟩ := cntR_ok hct
  obtain ⟨n, rfl⟩ : ∃ n : Nat, cn = (n : Int) := ⟨cn.toNat, by omega⟩
  have HCT := Lib.hid hct
  refine hcnt.mono ?_
  rintro en w2 ⟨rfl, hb2, hg2⟩
  have hE2 := hE.grown hg2 (fun k e => by cases e; exact hlow)
  clear hct hcnt hg2 hB hE hcn0 hcn2
  go_wp2_with fail
  go_loopw [7, 25] (fun v i wr => ∃ (j : Nat) (l : List FTab) (q : Int), j ≤ n ∧ i = .int .i64 (j : Int) ∧ Hid (l.length = j) ∧ Hid (tabsR b n p1 = preR l (tabsR b (n - j) q)) ∧ Hid (∀ t ∈ l, t.R) ∧ wr.heap[gr]? = some (.cells #[.slice A n0 c, .int .i64 q] 122 (0, 0)) ∧ FOwn w.heap.size wr v l ∧ Ext w wr) (fun _ i _ => n - (intOf i).toNat)
  case atStart => exact ⟨0, [], p1, by omega, rfl, Lib.hid rfl, Lib.hid (by rw [preR_nil, Nat.sub_zero]), Lib.hid (by simp), hb2, FOwn.nil _ _, hE2⟩
  case round =>
    clear hb2 hE2
    obtain ⟨j, l, q, hj, rfl, HJ, HT, HR, hrd, hT, hX⟩ := hrel
    obtain ⟨wo, rfl⟩ : ∃ wo : World, wo = wr := ⟨_, rfl⟩
    by_cases hlt : j < n
    · have hij : (j : Int) < (n : Int) := by omega
      have HSN : Hid (n - j = (n - (j + 1)) + 1) := Lib.hid (by omega)
      have hst : St [gr] wo (fun W => InB W (.slice A n0 c) b) := fun W hk => HX0.out.ext (hk.ext hX hX.size (fun i hi => by simp only [List.mem_cons, List.not_mem_nil, or_false] at hi; subst hi; exact hlow))
      have htab := cfTable_any gr _ b q wo hst hrd HL.out
      go_wp2_with fail
      rcases htr : tabR b q with e | ⟨t, q2⟩
      · rw [htr] at htab
        refine htab.mono ?_
        rintro en w3 ⟨⟨lo, hi, A2, n2, c2, A3, n3, c3, rfl⟩, he0, hk3⟩
        have hX3 := hk3.ext hX hX.size (fun i hi => by simp only [List.mem_cons, List.not_mem_nil, or_false] at hi; subst hi; exact hlow)
        have HP : Hid (decF b = .error e) := Lib.hid (by
          unfold decF
          rw [if_neg H6.out]
          simp only [HCT.out, Int.toNat_natCast, HT.out, HSN.out]
          unfold tabsR
          simp only [htr]
          rfl)
        have e0 : (e != 0) = true := by simpa using he0
        clear htr htab he0 hk3 hst hrd hT hX
        obtain ⟨hsto, hG, hXG⟩ := box_new (P := Try.prog) w3 27 #[.int .i64 0, .int .i64 0, .slice none 0 0, .slice none 0 0] #[.int .i64 lo, .int .i64 hi, .slice A2 n2 c2, .slice A3 n3 c3] ft_size rfl (by simp [Value.oneCell'])
        go_upto_region 11 with first | refine wpList_store_run rfl 27 (.tmp 8) (.tmp 30) rfl _ _ _ rfl rfl hsto ?_
        have hX4 := hX3.trans hXG
        clear hsto hXG hX3
        generalize (w3.alloc (.cells #[.int .i64 0, .int .i64 0, .slice none 0 0, .slice none 0 0] 27)).setRow w3.heap.size #[.int .i64 lo, .int .i64 hi, .slice A2 n2 c2, .slice A3 n3 c3] = w4 at *
        go_wp2_with fail
        refine bodyPost_ret (by simp [results, Try.results45, go_sem]; rfl) rfl ?_
        rw [HP.out]
        exact ⟨rfl, hX4⟩
      rw [htr] at htab
      have HTR := Lib.hid (tabR_ok htr)
      have HT2 : Hid (tabsR b n p1 = preR (l ++ [t]) (tabsR b (n - (j + 1)) q2)) := Lib.hid (by
        rw [HT.out, HSN.out]
        conv => lhs; unfold tabsR
        simp only [htr]
        rw [preR_preR])
      refine htab.mono ?_
      rintro en w3 ⟨y, z, rfl, hs3, hb3, hrd3, hk3⟩
      have hX3 := hk3.ext hX hX.size (fun i hi => by simp only [List.mem_cons, List.not_mem_nil, or_false] at hi; subst hi; exact hlow)
      have hT3 := Kept.fown2 hk3 hT hrd
      have hs3' := hs3.low hX.size
      have hb3' := hb3.low hX.size
      clear htr htab hst hk3 hX hT hrd hs3 hb3
      obtain ⟨A2, c2, hy, _, _⟩ := hs3'.inR
      obtain ⟨A3, c3, hz, _, _⟩ := hb3'.inR
      obtain ⟨n2, hn2⟩ : ∃ n5, n5 = t.steps.length := ⟨_, rfl⟩
      obtain ⟨n3, hn3⟩ : ∃ n5, n5 = t.objs.length := ⟨_, rfl⟩
      rw [← hn2] at hy
      rw [← hn3] at hz
      subst hy hz
      clear hn2 hn3
      obtain ⟨hsto, hG, hXG⟩ := box_new (P := Try.prog) w3 27 #[.int .i64 0, .int .i64 0, .slice none 0 0, .slice none 0 0] #[.int .i64 t.lo, .int .i64 t.hi, .slice A2 n2 c2, .slice A3 n3 c3] ft_size rfl (by simp [Value.oneCell'])
      go_upto_region 13 with first | refine wpList_store_run rfl 27 (.tmp 8) (.tmp 30) rfl _ _ _ rfl rfl hsto ?_
      obtain ⟨g8, hg8⟩ : ∃ g, g = w3.heap.size := ⟨_, rfl⟩
      rw [← hg8] at hG hXG ⊢
      generalize (w3.alloc (.cells #[.int .i64 0, .int .i64 0, .slice none 0 0, .slice none 0 0] 27)).setRow g8 #[.int .i64 t.lo, .int .i64 t.hi, .slice A2 n2 c2, .slice A3 n3 c3] = w4 at *
      have hT4 := hT3.ext hXG
      have hX4 := hX3.trans hXG
      have hrd4 := hXG.heap hrd3
      have hs4 := hs3'.ext hXG
      have hb4 := hb3'.ext hXG
      clear hsto hXG hT3 hX3 hrd3 hs3' hb3' hg8
      obtain ⟨zt, hz1, hz2, hz3⟩ := hT4
      have HZ1 := Lib.hid hz1
      have HZ3 := Lib.hid hz3
      have hzl : zt.length ≤ 8 := by have h1 : zt.length = l.length := by rw [← hz1]; simp
                                     rw [h1, HJ.out]; omega
      clear hz1 hz3
      have hldt := run_loadAt_blk (P := Try.prog) w4 g8 27 27 _ (0, 0) _ hG Try.underlying27 rfl ft_size
      have hA5 := (Ext.refl w4).alloc (.cells #[.int .i64 t.lo, .int .i64 t.hi, .slice A2 n2 c2, .slice A3 n3 c3] 27)
      have hin5 : InR ftabCells (w4.alloc (.cells #[.int .i64 t.lo, .int .i64 t.hi, .slice A2 n2 c2, .slice A3 n3 c3] 27)) (.slice (some ⟨w4.heap.size, 0, none⟩) 1 1) [(t, .slice A2 n2 c2, .slice A3 n3 c3)] := (OwnR_one (f := ftabCells) w4 (t, .slice A2 n2 c2, .slice A3 n3 c3) rfl 27).inR
      have hsz5 := Nat.le_trans hX4.size hA5.size
      go_wp2_with first | refine wpList_load_run rfl 27 (.tmp 8) rfl _ _ rfl hldt ?_ | refine wpList_rowOne elem_ft rfl (.tmp 36) rfl #[.int .i64 t.lo, .int .i64 t.hi, .slice A2 n2 c2, .slice A3 n3 c3] rfl rfl (by omega) ?_ | (at_builtin; go_must (refine wpList_appendR elem_ft rfl (.tmp 35) (.tmp 37) rfl w.heap.size _ zt rfl (hz2.ext hA5) _ [(t, .slice A2 n2 c2, .slice A3 n3 c3)] rfl hin5 (fun _ _ => rfl) (fun a ha u hu => by simp only [List.mem_singleton] at ha; subst ha; simp only [ftabCells, List.mem_cons, List.not_mem_nil, or_false] at hu; rcases hu with rfl | rfl | rfl | rfl <;> rfl) (by simp only [List.length_cons, List.length_nil]; omega) (by omega) hsz5 (Hold.out ?_)))
      refine Hold.mk fun v9 w9 ho9 hg9 => ?_
      have hTn : FOwn w.heap.size w9 v9 (l ++ [t]) := by
        refine ⟨zt ++ [(t, .slice A2 n2 c2, .slice A3 n3 c3)], by rw [List.map_append, HZ1.out]; rfl, ho9, fun z hz => ?_⟩
        have hn1' : ∀ (v : Value) (r : List Stp), OwnR stpCells 2 78 w.heap.size (w4.alloc (.cells #[.int .i64 t.lo, .int .i64 t.hi, .slice A2 n2 c2, .slice A3 n3 c3] 27)) v r → OwnR stpCells 2 78 w.heap.size w9 v r := fun v r hzz => hzz.kept hg9.grown (row_ne hzz (hz2.ext hA5) (by decide))
        have hn2' : ∀ (v : Value) (r : List Obj), OwnR objCells 4 83 w.heap.size (w4.alloc (.cells #[.int .i64 t.lo, .int .i64 t.hi, .slice A2 n2 c2, .slice A3 n3 c3] 27)) v r → OwnR objCells 4 83 w.heap.size w9 v r := fun v r hzz => hzz.kept hg9.grown (row_ne hzz (hz2.ext hA5) (by decide))
        rcases List.mem_append.1 hz with hz | hz
        · exact ⟨hn1' _ _ ((HZ3.out z hz).1.ext hA5), hn2' _ _ ((HZ3.out z hz).2.ext hA5)⟩
        · simp only [List.mem_singleton] at hz
          subst hz
          exact ⟨hn1' _ _ (hs4.ext hA5), hn2' _ _ (hb4.ext hA5)⟩
      have hrd9 := blk_grown (hA5.heap hrd4) hg9.grown (fun e => hz2.ne_blk hrd4 (by decide) e.symm)
      have hX9 : Ext w w9 := hg9.ext (hX4.trans hA5) hz2.ge
      have HJ9 : Hid ((l ++ [t]).length = j + 1) := Lib.hid (by rw [List.length_append, HJ.out]; rfl)
      have HR9 : Hid (∀ s ∈ l ++ [t], s.R) := Lib.hid (fun s hs => by
        rcases List.mem_append.1 hs with hs | hs
        · exact HR.out s hs
        · simp only [List.mem_singleton] at hs
          subst hs
          exact HTR.out)
      clear hldt hA5 hin5 hsz5 ho9 hg9 hrd4 hX4 hz2 hs4 hb4 hG
      go_wp2_with fail
      go_roundw
      case rel => exact ⟨j + 1, l ++ [t], q2, by omega, by first | (with_reducible rfl) | go_num, HJ9, HT2, HR9, hrd9, hTn, hX9⟩
      case measure => simp [intOf]; omega
    · have hij : ¬ (j : Int) < (n : Int) := by omega
      have HTS : Hid (tabsR b n p1 = .ok (l, q)) := Lib.hid (by
        have e : n - j = 0 := by omega
        rw [HT.out, e]
        simp [tabsR, preR])
      have HD1 : Hid ((q < b.length ∨ ¬ RightF l) → decF b = .error 4) := Lib.hid (fun h => by
        unfold decF
        rw [if_neg H6.out]
        simp only [HCT.out, Int.toNat_natCast, HTS.out]
        rw [if_pos h])
      have HD2 : Hid (¬ (q < b.length ∨ ¬ RightF l) → decF b = .ok l) := Lib.hid (fun h => by
        unfold decF
        rw [if_neg H6.out]
        simp only [HCT.out, Int.toNat_natCast, HTS.out]
        rw [if_neg h])
      have hll : l.length ≤ 8 := by rw [HJ.out]; omega
      obtain ⟨nl, hnl⟩ : ∃ m, m = l.length := ⟨_, rfl⟩
      have hq1 := blk_at hrd 1 _ rfl
      clear HT
      by_cases hq : q < (n0 : Int)
      · have dq : decide (q < (n0 : Int)) = true := by simpa using hq
        have HP : Hid (decF b = .error 4) := Lib.hid (HD1.out (.inl (by rw [← HN0.out]; exact hq)))
        clear hq hnl
        go_wp2_with fail
        refine bodyPost_ret (by simp [results, Try.results45, go_sem]; rfl) rfl ?_
        rw [HP.out]
        exact ⟨rfl, hX⟩
      · have dq : decide (q < (n0 : Int)) = false := by simpa using hq
        have HQ : Hid (¬ q < (b.length : Int)) := Lib.hid (by rw [← HN0.out]; exact hq)
        clear hq hnl
        go_wp2_with fail
        refine (FRight_any l _ wo hT.in_ (fun t ht => (HR.out t ht).toI) (by omega)).mono ?_
        rintro en w5 ⟨r, rfl, hr, hx5⟩
        have hX5 := hX.trans hx5
        cases r with
        | false =>
          have HP : Hid (decF b = .error 4) := Lib.hid (HD1.out (.inr (fun h => by have := hr.2 h; cases this)))
          clear hr
          go_wp2_with fail
          refine bodyPost_ret (by simp [results, Try.results45, go_sem]; rfl) rfl ?_
          rw [HP.out]
          exact ⟨rfl, hX5⟩
        | true =>
          have HP : Hid (decF b = .ok l) := Lib.hid (HD2.out (fun h => h.elim (fun h1 => by have := HQ.out; omega) (fun h2 => h2 (hr.1 rfl))))
          clear hr
          go_wp2_with fail
          refine bodyPost_ret (by simp [results, Try.results45, go_sem]; rfl) rfl ?_
          rw [HP.out]
          exact ⟨⟨_, rfl, hT.ext hx5⟩, hX5⟩
end Go.Proofs.Ytokmbdeafjmcjaa
