/- What the specification says: the walks of ref.Right and ref.Encode of law 20. -/
import Derived.Test.YtokmbdeafjmcjaaCfN
import Derived.Test.YtokmbdeafjmcjaaWireR
namespace Go.Proofs.Ytokmbdeafjmcjaa
open Go.RowKit
set_option linter.unusedVariables false
set_option linter.unusedSimpArgs false

/-- the bounds of tables -/
def okBs (was : Int) : List FTab → Prop
  | [] => True
  | t :: l => okF was t ∧ okBs t.hi l
theorem okFs_iff : ∀ (l : List FTab) (e : Int), okFs e l ↔ okBs e l ∧ ∀ t ∈ l, okStps t.lo t.hi t.steps ∧ okObjs t.objs
  | [], e => by simp [okFs, okBs]
  | t :: l, e => by
    simp only [okFs, okBs, okFs_iff l t.hi, List.mem_cons, forall_eq_or_imp]
    exact ⟨fun ⟨h1, h2, h3, h4, h5⟩ => ⟨⟨h1, h4⟩, ⟨h2, h3⟩, h5⟩, fun ⟨⟨h1, h4⟩, ⟨h2, h3⟩, h5⟩ => ⟨h1, h2, h3, h4, h5⟩⟩
theorem okBs_mem : ∀ {l : List FTab} {e : Int}, 0 ≤ e → okBs e l → ∀ t ∈ l, 0 ≤ t.lo ∧ t.lo ≤ t.hi ∧ t.hi ≤ 1048576
  | [], _, _, _, t, ht => by simp at ht
  | s :: l, e, he, h, t, ht => by
    have h1 := h.1
    unfold okF at h1
    rcases List.mem_cons.1 ht with rfl | ht
    · omega
    · exact okBs_mem (e := s.hi) (by omega) h.2 t ht
/-- tables with few rows -/
def Few (l : List FTab) : Prop := ∀ t ∈ l, t.steps.length ≤ 1048576 ∧ t.objs.length ≤ 6144
theorem Few.items : ∀ {l : List FTab}, Few l → itemsN l ≤ 1054720 * l.length
  | [], _ => by simp [itemsN]
  | t :: l, h => by
    have h1 := h t (by simp)
    have h2 := Few.items (l := l) (fun x hx => h x (by simp [hx]))
    unfold itemsN at *
    simp only [List.map_cons, List.sum_cons, List.length_cons]
    omega
theorem few_of {l : List FTab} (h1 : okBs 0 l) (h2 : ∀ t ∈ l, okStps t.lo t.hi t.steps ∧ okObjs t.objs) : Few l := fun t ht => by
  have h3 := okBs_mem (by omega) h1 t ht
  have h4 := h2 t ht
  refine ⟨?_, okObjs_len h4.2⟩
  by_cases h0 : t.steps = []
  · rw [h0]; simp
  · have := okStps_len h4.1 h0
    omega
theorem wrap64_in {x : Int} (h : -9223372036854775808 ≤ x ∧ x ≤ 9223372036854775807) : wrap64 x = x := by unfold wrap64; omega
set_option maxHeartbeats 40000000 in
set_option maxRecDepth 100000 in
theorem refRight20_any (l : List FTab) (v : Value) (w : World) (hv : FTabs w v l) (hI : ∀ t ∈ l, t.I) (hl : l.length ≤ 9223372036854775807) : Calls Try.prog 16 #[v] w (Tells (RightF l) w) := by
  obtain ⟨A, c, rfl⟩ := hv.form
  obtain ⟨nl, hnl⟩ : ∃ n, n = l.length := ⟨_, rfl⟩
  have HV := Lib.hid hv
  have HI := Lib.hid hI
  rw [← hnl] at HV hl ⊢
  have HNL := Lib.hid hnl
  clear hv hI hnl
  go_enter Try.func16, Try.ntmps16
  go_wp2_with fail
  go_loopw [3, 4, 11] (fun n e i wr => ∃ (j : Nat) (N : Int) (e' : Int), j ≤ nl ∧ i = .int .i64 (j : Int) ∧ n = .int .i64 N ∧ e = .int .i64 e' ∧ (0 ≤ e' ∧ e' ≤ 1048576) ∧ Hid (nl ≤ 8 → Few (l.take j) → N = itemsN (l.take j)) ∧ Hid (okBs 0 l ↔ okBs e' (l.drop j)) ∧ Ext w wr) (fun _ _ i _ => nl - (intOf i).toNat)
  case atStart => exact ⟨0, 0, 0, by omega, rfl, rfl, rfl, by omega, Lib.hid (fun _ _ => by simp [itemsN]), Lib.hid (by rw [List.drop_zero]), Ext.refl _⟩
  case round =>
    obtain ⟨j, N, e, hj, rfl, rfl, rfl, he, HN, HR, hX⟩ := hrel
    obtain ⟨wo, rfl⟩ : ∃ wo : World, wo = wr := ⟨_, rfl⟩
    by_cases hlt : j < nl
    · have hij : (j : Int) < (nl : Int) := by omega
      have hlt' : j < l.length := by rw [← HNL.out]; exact hlt
      obtain ⟨bb, oo, y, z, rfl, hra, hrw1, hrw2⟩ := (HV.out.ext hX).at_ hlt'
      have HD := Lib.hid (List.drop_eq_getElem_cons hlt')
      have HSU := Lib.hid (itemsN_succ hlt')
      have HTK := Lib.hid (List.take_succ_eq_append_getElem hlt')
      have HTI := Lib.hid (HI.out _ (List.getElem_mem hlt'))
      generalize l[j] = t at *
      have hlo := HTI.out.lo
      have hhi := HTI.out.hi
      obtain ⟨A2, c2, rfl, _, _⟩ := id hrw1
      obtain ⟨A3, c3, rfl, _, _⟩ := id hrw2
      have hld := ftab_load hra
      obtain ⟨hst, hG, hXG⟩ := box_new (P := Try.prog) wo 27 #[.int .i64 0, .int .i64 0, .slice none 0 0, .slice none 0 0] #[.int .i64 t.lo, .int .i64 t.hi, .slice A2 t.steps.length c2, .slice A3 t.objs.length c3] ft_size rfl (by simp [Value.oneCell'])
      go_upto_region 5 with first | refine wpList_load_run rfl 27 (.tmp 13) rfl _ _ rfl hld ?_ | refine wpList_store_run rfl 27 (.tmp 6) (.tmp 14) rfl _ _ _ rfl rfl hst ?_
      obtain ⟨g6, hg⟩ : ∃ g, g = wo.heap.size := ⟨_, rfl⟩
      rw [← hg] at hG hXG ⊢
      generalize (wo.alloc (.cells #[.int .i64 0, .int .i64 0, .slice none 0 0, .slice none 0 0] 27)).setRow g6 #[.int .i64 t.lo, .int .i64 t.hi, .slice A2 t.steps.length c2, .slice A3 t.objs.length c3] = wg at *
      dsimp only [Act.put]
      obtain ⟨r0, r1, r2, r3⟩ := blkR hG
      have hXX := hX.trans hXG
      clear hst hld hra hXG hX hg hrw1 hrw2
      go_wp2_with fail
      refine (bounds_any t.lo t.hi e wg).mono ?_
      rintro en w2 ⟨d, rfl, hd, hx2⟩
      have hX2 := hXX.trans hx2
      have hG2 := hx2.heap hG
      clear hXX hG r0 r1 r2 r3 hx2
      obtain ⟨r0, r1, r2, r3⟩ := blkR hG2
      cases d with
      | false =>
        go_wp2_with fail
        go_ret
        refine Tells.no (fun h => ?_) hX2
        have h2 := HR.out.1 ((okFs_iff l 0).1 h.2.1).1
        rw [HD.out] at h2
        have h3 := h2.1
        unfold okF at h3
        have := hd.2 ⟨by omega, by omega, by omega, by omega⟩
        cases this
      | true =>
        have hb := hd.1 rfl
        have HOKT : Hid (okF e t) := Lib.hid (by unfold okF; omega)
        have HR2 : Hid (okBs 0 l ↔ okBs t.hi (l.drop (j + 1))) := Lib.hid (by
          rw [HR.out, HD.out]
          exact ⟨fun h => h.2, fun h => ⟨HOKT.out, h⟩⟩)
        obtain ⟨nv, hnv⟩ : ∃ nv : Int, nv = wrap64 (wrap64 (N + (t.steps.length : Int)) + (t.objs.length : Int)) := ⟨_, rfl⟩
        have HNV : Hid (nl ≤ 8 → Few (l.take (j + 1)) → nv = itemsN (l.take (j + 1))) := Lib.hid (fun h8 hf => by
          have hf1 : Few (l.take j) := fun s hs => hf s (by rw [HTK.out]; simp [hs])
          have hft := hf t (by rw [HTK.out]; simp)
          have h1 := HN.out h8 hf1
          have h2 := hf1.items
          rw [List.length_take] at h2
          have h3 : itemsN (l.take j) ≤ 8437760 := by omega
          rw [hnv, HSU.out, h1]
          have h5 := hft.1
          have h6 := hft.2
          rw [wrap64_in (x := ((itemsN (l.take j) : Nat) : Int) + (t.steps.length : Int)) (by omega), wrap64_in (by omega)]
          omega)
        clear hd HR HN
        go_upto_region 7 with fail
        go_quiet (fail)
        go_upto_region 8 with fail
        obtain ⟨wp, hwp⟩ : ∃ W : World, W = w2.drewN nq := ⟨_, rfl⟩
        have hEp : Ext w2 wp := by rw [hwp]; exact (Ext.refl _).drewN _
        rw [← hwp]
        clear hwp
        have hXp := hX2.trans hEp
        clear r0 r1 r2 r3 hX2 hG2 hEp
        rw [← hnv]
        clear hnv
        have hwj : IntKind.i64.wrap ((j : Int) + 1) = ((j + 1 : Nat) : Int) := by rw [IntKind.wrap_i64]; omega
        go_wp2_with fail
        go_roundw
        case rel => exact ⟨j + 1, nv, t.hi, by omega, by first | (with_reducible rfl) | go_num, rfl, rfl, by omega, HNV, HR2, hXp⟩
        case measure => simp [intOf]; omega
    · have hij : ¬ (j : Int) < (nl : Int) := by omega
      have HT : Hid (okBs 0 l) := Lib.hid (by rw [HR.out, List.drop_of_length_le (by rw [← HNL.out]; omega)]; trivial)
      have HNN : Hid (nl ≤ 8 → Few l → N = itemsN l) := Lib.hid (by have := HN.out; rwa [List.take_of_length_le (by rw [← HNL.out]; omega)] at this)
      clear HN HR
      by_cases h8 : 8 < nl
      case pos =>
        have d8 : decide ((8 : Int) < (nl : Int)) = true := by simp; omega
        go_wp2_with fail
        go_ret
        exact Tells.no (fun h => by have := h.1; rw [← HNL.out] at this; omega) hX
      have d8 : decide ((8 : Int) < (nl : Int)) = false := by simp; omega
      by_cases h80 : 8000 < N
      case pos =>
        have d80 : decide (8000 < N) = true := by simp; omega
        go_wp2_with fail
        go_ret
        refine Tells.no (fun h => ?_) hX
        have h1 := (okFs_iff l 0).1 h.2.1
        have h2 := HNN.out (by omega) (few_of h1.1 h1.2)
        have h3 := h.2.2
        omega
      have d80 : decide (8000 < N) = false := by simp; omega
      go_wp2_with fail
      go_loopw [43] (fun i wr => ∃ (k : Nat), k ≤ nl ∧ i = .int .i64 (k : Int) ∧ Hid (∀ t ∈ l.take k, okStps t.lo t.hi t.steps ∧ okObjs t.objs) ∧ Ext w wr) (fun i _ => nl - (intOf i).toNat)
      case atStart => exact ⟨0, by omega, rfl, Lib.hid (by simp), hX⟩
      case round =>
        clear hX
        obtain ⟨k, hk, rfl, HA, hX⟩ := hrel
        obtain ⟨wz, rfl⟩ : ∃ wo : World, wo = wr := ⟨_, rfl⟩
        by_cases hlt : k < nl
        · have hik : (k : Int) < (nl : Int) := by omega
          have hlt' : k < l.length := by rw [← HNL.out]; exact hlt
          obtain ⟨bb, oo, y, z, rfl, hra, hrw1, hrw2⟩ := (HV.out.ext hX).at_ hlt'
          have HTK := Lib.hid (List.take_succ_eq_append_getElem hlt')
          have HMM := Lib.hid (List.getElem_mem hlt')
          have HTI := Lib.hid (HI.out _ (List.getElem_mem hlt'))
          have hbb := okBs_mem (by omega) HT.out _ (List.getElem_mem hlt')
          generalize l[k] = t at *
          obtain ⟨A2, c2, rfl, _, _⟩ := id hrw1
          obtain ⟨A3, c3, rfl, _, _⟩ := id hrw2
          have hld := ftab_load hra
          obtain ⟨hst, hG, hXG⟩ := box_new (P := Try.prog) wz 27 #[.int .i64 0, .int .i64 0, .slice none 0 0, .slice none 0 0] #[.int .i64 t.lo, .int .i64 t.hi, .slice A2 t.steps.length c2, .slice A3 t.objs.length c3] ft_size rfl (by simp [Value.oneCell'])
          go_upto_region 14 with first | refine wpList_load_run rfl 27 (.tmp 45) rfl _ _ rfl hld ?_ | refine wpList_store_run rfl 27 (.tmp 8) (.tmp 46) rfl _ _ _ rfl rfl hst ?_
          obtain ⟨g8, hg⟩ : ∃ g, g = wz.heap.size := ⟨_, rfl⟩
          rw [← hg] at hG hXG ⊢
          generalize (wz.alloc (.cells #[.int .i64 0, .int .i64 0, .slice none 0 0, .slice none 0 0] 27)).setRow g8 #[.int .i64 t.lo, .int .i64 t.hi, .slice A2 t.steps.length c2, .slice A3 t.objs.length c3] = wg at *
          dsimp only [Act.put]
          have hXX := hX.trans hXG
          have hldt := run_loadAt_blk (P := Try.prog) wg g8 27 27 _ (0, 0) _ hG Try.underlying27 rfl ft_size
          have hs1 := hrw1.ext hXG
          have hs2 := hrw2.ext hXG
          clear hst hld hra hXG hX hg hrw1 hrw2 hG
          go_wp2_with first | refine wpList_load_run rfl 27 (.tmp 8) rfl _ _ rfl hldt ?_
          refine (refOne_any t _ _ wg hs1 hs2 HTI.out (by omega) (by omega)).mono ?_
          rintro en w2 ⟨d, rfl, hd, hx2⟩
          have hX2 := hXX.trans hx2
          clear hldt hXX hs1 hs2 hx2
          cases d with
          | false =>
            go_wp2_with fail
            go_ret
            refine Tells.no (fun h => ?_) hX2
            have := hd.2 (((okFs_iff l 0).1 h.2.1).2 t HMM.out)
            cases this
          | true =>
            have HA2 : Hid (∀ s ∈ l.take (k + 1), okStps s.lo s.hi s.steps ∧ okObjs s.objs) := Lib.hid (by
              rw [HTK.out]
              intro s hs
              rcases List.mem_append.1 hs with hs | hs
              · exact HA.out s hs
              · simp only [List.mem_singleton] at hs
                subst hs
                exact hd.1 rfl)
            clear hd
            go_wp2_with fail
            go_roundw
            case rel => exact ⟨k + 1, by omega, by first | (with_reducible rfl) | go_num, HA2, hX2⟩
            case measure => simp [intOf]; omega
        · have hik : ¬ (k : Int) < (nl : Int) := by omega
          have HF : Hid (RightF l) := Lib.hid (by
            have hA : ∀ t ∈ l, okStps t.lo t.hi t.steps ∧ okObjs t.objs := by have := HA.out; rwa [List.take_of_length_le (by rw [← HNL.out]; omega)] at this
            have h2 := HNN.out (by omega) (few_of HT.out hA)
            exact ⟨by rw [← HNL.out]; omega, (okFs_iff l 0).2 ⟨HT.out, hA⟩, by omega⟩)
          go_wp2_with fail
          go_ret
          exact Tells.yes HF.out hX
theorem elem_in20 : Elem1 Try.prog 23 3 8 := by
  rcases hi : Try.prog.info? 3 with _ | i
  · have := int_info; rw [hi] at this; cases this
  · have := int_info
    rw [hi] at this
    simp only [Option.map_some, Option.some.injEq, Prod.mk.injEq] at this
    exact ⟨Try.underlying23, i, _, hi, this.1, this.2.1, this.2.2, rfl⟩
/-- the numbers of tables -/
def tabsN (l : List FTab) : List Int := [(l.length : Int)] ++ l.flatMap tabN
theorem tabsN_B (l : List FTab) : numB (tabsN l) = encFs l := by
  unfold tabsN encFs
  rw [numB_app]
  congr 1
  induction l with
  | nil => rfl
  | cons t l ih => rw [List.flatMap_cons, List.flatMap_cons, numB_app, ih]
/-- numbers that may be written -/
def Okv (vs : List Int) : Prop := ∀ v ∈ vs, 0 ≤ v ∧ v ≤ 1048576
theorem Okv.app {a b : List Int} (h : Okv a) (k : Okv b) : Okv (a ++ b) := fun v hv => by
  rcases List.mem_append.1 hv with h1 | h1
  · exact h v h1
  · exact k v h1
theorem okStps_drop {hi : Int} : ∀ {l : List Stp} {nx : Int} {k : Nat} (hk : k < l.length), okStps nx hi l → ∀ s ∈ l.drop (k + 1), l[k].addr ≤ s.addr
  | [], _, _, hk, _, _, _ => by simp at hk
  | r :: l, nx, 0, hk, h, s, hs => by
    have h1 := okStps_mem h.2 s (by simpa using hs)
    simp only [List.getElem_cons_zero]
    omega
  | r :: l, nx, k + 1, hk, h, s, hs => by
    simp only [List.getElem_cons_succ]
    exact okStps_drop (by simpa using hk) h.2 s (by simpa using hs)
set_option maxHeartbeats 40000000 in
set_option maxRecDepth 100000 in
theorem refEncode20_any (l : List FTab) (v : Value) (w : World) (hv : FTabs w v l) (hI : ∀ t ∈ l, t.I) (hl : l.length ≤ 9223372036854775807) : Calls Try.prog 19 #[v] w (EncPost (EncF l) w) := by
  obtain ⟨A, c, rfl⟩ := hv.form
  have HV := Lib.hid hv
  have HI := Lib.hid hI
  clear hv hI
  go_enter Try.func19, Try.ntmps19
  go_wp2_with fail
  refine (refRight20_any l _ w HV.out HI.out hl).mono ?_
  rintro en w1 ⟨r, rfl, hr, hx1⟩
  cases r with
  | false =>
    have HN : Hid (EncF l = []) := Lib.hid (by unfold EncF; rw [if_neg (fun h => by have := hr.2 h; cases this)])
    clear hr
    go_wp2_with fail
    refine bodyPost_ret (by simp [results, Try.results19, go_sem]; rfl) rfl ?_
    exact ⟨_, rfl, by rw [HN.out]; exact OwnV.nil _, hx1⟩
  | true =>
    have HR := Lib.hid (hr.1 rfl)
    clear hr
    have h8 := HR.out.1
    have hown : OwnV iv 3 w.heap.size w1 (.slice none 0 0) [] := OwnV.nil _
    have hz0 : ([] : List Int).length = 0 := rfl
    have hAN := (Ext.refl w1).alloc (.cells #[.int .i64 (l.length : Int)] 3)
    have hBN : InI ((w1).alloc (.cells #[.int .i64 (l.length : Int)] 3)) (.slice (some ⟨(w1).heap.size, 0, none⟩) 1 1) [(l.length : Int)] := ⟨_, 1, rfl, Nat.le_refl _, Rd_blk (heap_alloc_new (w1) (.cells #[.int .i64 (l.length : Int)] 3))⟩
    have hoN := hown.ext hAN
    have hsN := Nat.le_trans hx1.size hAN.size
    obtain ⟨cvs, hcvs⟩ : ∃ c, c = [(l.length : Int)] := ⟨_, rfl⟩
    have hcvl : cvs.length = 1 := by rw [hcvs]; rfl
    have hokv : Okv cvs := by rw [hcvs]; unfold Okv; simp only [List.mem_cons, List.not_mem_nil, or_false, forall_eq_or_imp, forall_eq]; omega
    rw [← hcvs] at hBN
    have HCVS := Lib.hid hcvs
    have HCVL := Lib.hid hcvl
    have HOKV := Lib.hid hokv
    clear hcvs hcvl hokv
    go_wp2_with (at_builtin; go_must (refine wpList_appendV elem_in20 (fun _ => rfl) rfl (.tmp 17) (.tmp 20) rfl w.heap.size _ [] rfl hoN _ cvs rfl hBN (by have := HCVL.out; omega) (by omega) hsN (Hold.out ?_)))
    refine Hold.mk fun v9 w9 ho9 hg9 => ?_
    have hX9 := hg9.ext (hx1.trans hAN) hoN.ge
    have hc1 := HCVL.out
    have HC1 : Hid (cvs = [(l.length : Int)]) := HCVS
    clear hAN hBN hoN hsN hg9 hown hx1 HCVS
    go_wp2_with fail
    go_loopw [3, 24] (fun v i wr => ∃ (j N : Nat) (cur : List Int), j ≤ l.length ∧ i = .int .i64 (j : Int) ∧ Hid (cur = [(l.length : Int)] ++ (l.take j).flatMap tabN) ∧ cur.length ≤ 1 + 4 * j + 4 * N ∧ N ≤ 8000 ∧ Hid (N = itemsN (l.take j)) ∧ Hid (Okv cur) ∧ OwnV iv 3 w.heap.size wr v cur ∧ Ext w wr) (fun _ i _ => l.length - (intOf i).toNat)
    case atStart => exact ⟨0, 0, cvs, by omega, rfl, Lib.hid (by rw [HC1.out]; simp), by omega, by omega, Lib.hid (by simp [itemsN]), HOKV, ho9, hX9⟩
    case round =>
      clear ho9 hX9 hc1 HCVL HOKV HC1
      obtain ⟨j, N, cur, hj, rfl, HC, hcl, hN, HN, HK, hown, hX⟩ := hrel
      obtain ⟨wo, rfl⟩ : ∃ wo : World, wo = wr := ⟨_, rfl⟩
      by_cases hlt : j < l.length
      · have hij : (j : Int) < (l.length : Int) := by omega
        obtain ⟨bb, oo, y, z, rfl, hra0, hrw1, hrw2⟩ := HV.out.at_ hlt
        have hra : wo.rangeAt bb (oo + j * 4) (ftabCells (l[j], y, z)) := fun i u hu => hX.cell (hra0 i u hu)
        have HSU := Lib.hid (itemsN_succ hlt)
        have HTK := Lib.hid (List.take_succ_eq_append_getElem hlt)
        have HLE := Lib.hid (itemsN_le' hlt)
        obtain ⟨hm1, hm2, hm3, hm4⟩ := HR.out.mem (List.getElem_mem hlt)
        clear hra0
        generalize l[j] = t at *
        have HOS := Lib.hid (okStps_mem hm2)
        have HUP := Lib.hid hm2
        have HOO := Lib.hid hm3.1
        have hrl8 : N + (t.steps.length + t.objs.length) ≤ 8000 := by
          have h1 := HR.out.2.2
          have h2 := HLE.out
          rw [← HN.out] at h2
          omega
        clear hm2 hm3 HLE
        obtain ⟨A2, c2, rfl, _, _⟩ := id hrw1
        obtain ⟨A3, c3, rfl, _, _⟩ := id hrw2
        have HW1 := Lib.hid hrw1
        have HW2 := Lib.hid hrw2
        have hld := ftab_load hra
        obtain ⟨hst, hG, hXG⟩ := box_new (P := Try.prog) wo 27 #[.int .i64 0, .int .i64 0, .slice none 0 0, .slice none 0 0] #[.int .i64 t.lo, .int .i64 t.hi, .slice A2 t.steps.length c2, .slice A3 t.objs.length c3] ft_size rfl (by simp [Value.oneCell'])
        go_upto_region 8 with first | refine wpList_load_run rfl 27 (.tmp 26) rfl _ _ rfl hld ?_ | refine wpList_store_run rfl 27 (.tmp 5) (.tmp 27) rfl _ _ _ rfl rfl hst ?_
        obtain ⟨g5, hg5⟩ : ∃ g, g = wo.heap.size := ⟨_, rfl⟩
        rw [← hg5] at hG hXG ⊢
        generalize (wo.alloc (.cells #[.int .i64 0, .int .i64 0, .slice none 0 0, .slice none 0 0] 27)).setRow g5 #[.int .i64 t.lo, .int .i64 t.hi, .slice A2 t.steps.length c2, .slice A3 t.objs.length c3] = wg at *
        dsimp only [Act.put]
        obtain ⟨r0, r1, r2, r3⟩ := blkR hG
        have hXX := hX.trans hXG
        replace hown := hown.ext hXG
        clear hst hld hra hXG hX hg5 hrw1 hrw2
        obtain ⟨n2, hn2⟩ : ∃ n, n = t.steps.length := ⟨_, rfl⟩
        obtain ⟨n3, hn3⟩ : ∃ n, n = t.objs.length := ⟨_, rfl⟩
        rw [← hn2] at r2 hrl8 HSU hm4
        rw [← hn3] at r3 hrl8 HSU hm4
        have HN2 := Lib.hid hn2
        have HN3 := Lib.hid hn3
        rw [← hn2, ← hn3] at hG
        clear hn2 hn3
        have hAN := (Ext.refl wg).alloc (.cells #[.int .i64 t.lo, .int .i64 t.hi, .int .i64 (n2 : Int)] 3)
        have hBN : InI ((wg).alloc (.cells #[.int .i64 t.lo, .int .i64 t.hi, .int .i64 (n2 : Int)] 3)) (.slice (some ⟨(wg).heap.size, 0, none⟩) 3 3) [t.lo, t.hi, (n2 : Int)] := ⟨_, 3, rfl, Nat.le_refl _, Rd_blk (heap_alloc_new (wg) (.cells #[.int .i64 t.lo, .int .i64 t.hi, .int .i64 (n2 : Int)] 3))⟩
        have hoN := hown.ext hAN
        have hsN := Nat.le_trans hXX.size hAN.size
        obtain ⟨cvs, hcvs⟩ : ∃ c, c = [t.lo, t.hi, (n2 : Int)] := ⟨_, rfl⟩
        have hcvl : cvs.length = 3 := by rw [hcvs]; rfl
        have hokv : Okv cvs := by rw [hcvs]; unfold Okv; simp only [List.mem_cons, List.not_mem_nil, or_false, forall_eq_or_imp, forall_eq]; omega
        rw [← hcvs] at hBN
        have HCVS := Lib.hid hcvs
        have HCVL := Lib.hid hcvl
        have HOKV := Lib.hid hokv
        clear hcvs hcvl hokv
        go_wp2_with (at_builtin; go_must (refine wpList_appendV elem_in20 (fun _ => rfl) rfl (.tmp 28) (.tmp 36) rfl w.heap.size _ cur rfl hoN _ cvs rfl hBN (by have := HCVL.out; omega) (by omega) hsN (Hold.out ?_)))
        refine Hold.mk fun v9 w9 ho9 hg9 => ?_
        have hX9 := hg9.ext (hXX.trans hAN) hoN.ge
        have hG2 := blk_grown (hAN.heap hG) hg9.grown (fun e => hoN.ne_blk (hAN.heap hG) (by decide) e.symm)
        obtain ⟨cur2, hc2⟩ : ∃ c, c = cur ++ cvs := ⟨_, rfl⟩
        have hcl2 : cur2.length ≤ 4 + 4 * j + 4 * N := by rw [hc2, List.length_append, HCVL.out]; omega
        have HK2 : Hid (Okv cur2) := Lib.hid (by rw [hc2]; exact HK.out.app HOKV.out)
        rw [← hc2] at ho9
        have HC2 : Hid (cur2 = cur ++ [t.lo, t.hi, (n2 : Int)]) := Lib.hid (by rw [hc2, HCVS.out])
        clear hAN hBN hoN hsN hg9 hown hXX hG r0 r1 r2 r3 hc2 hcl HCVS HCVL HOKV
        obtain ⟨r0, r1, r2, r3⟩ := blkR hG2
        go_wp2_with fail
        clear r0 r1 r2 r3
        go_loopw [3, 6, 43] (fun v li i wr => ∃ (k : Nat) (cu : List Int) (last : Int), k ≤ n2 ∧ i = .int .i64 (k : Int) ∧ li = .int .i64 last ∧ (0 ≤ last ∧ last ≤ 1048576) ∧ Hid (cu = cur2 ++ stepsN t.lo (t.steps.take k)) ∧ Hid (last = lastA t.lo (t.steps.take k)) ∧ Hid (∀ s ∈ t.steps.drop k, last ≤ s.addr) ∧ cu.length ≤ 4 + 4 * j + 4 * N + 4 * k ∧ Hid (Okv cu) ∧ OwnV iv 3 w.heap.size wr v cu ∧ wr.heap[g5]? = some (.cells #[.int .i64 t.lo, .int .i64 t.hi, .slice A2 n2 c2, .slice A3 n3 c3] 27 (0, 0)) ∧ Ext w wr) (fun _ _ i _ => n2 - (intOf i).toNat)
        case atStart => exact ⟨0, cur2, t.lo, by omega, rfl, rfl, by omega, Lib.hid (by simp [stepsN]), Lib.hid (by simp [lastA]), Lib.hid (fun s hs => (HOS.out s (by simpa using hs)).1), by omega, HK2, ho9, hG2, hX9⟩
        case round =>
          clear ho9 hG2 hX9 HK2
          obtain ⟨k, cu, last, hk, rfl, rfl, hla, HCU, HLA, HLS, hcul, HK2, hown, hG, hX⟩ := hrel
          obtain ⟨wz, rfl⟩ : ∃ wz : World, wz = wr := ⟨_, rfl⟩
          by_cases hltk : k < n2
          · have hik : (k : Int) < (n2 : Int) := by omega
            have hltk' : k < t.steps.length := by rw [← HN2.out]; exact hltk
            obtain ⟨b2, o2, hAe, hrs⟩ := (HW1.out.ext hX).at_ (k := 2) (fun _ _ => rfl) (by omega) hltk'
            subst hAe
            have HTS := Lib.hid (List.take_succ_eq_append_getElem hltk')
            have hso := HOS.out _ (List.getElem_mem hltk')
            have hle := HLS.out (t.steps[k]) (by have h := List.drop_eq_getElem_cons hltk'; rw [h]; exact List.mem_cons_self)
            have HLN2 : Hid (∀ s ∈ t.steps.drop (k + 1), t.steps[k].addr ≤ s.addr) := Lib.hid (okStps_drop hltk' HUP.out)
            generalize t.steps[k] = r at *
            have hld := stp_load hrs
            obtain ⟨hst, hG8, hXG⟩ := box_new (P := Try.prog) wz 78 #[.int .i64 0, .int .i64 0] #[.int .i64 r.addr, .int .i64 r.off] sp_size rfl (by simp [Value.oneCell'])
            go_upto_region 13 with first | refine wpList_load_run rfl 78 (.tmp 45) rfl _ _ rfl hld ?_ | refine wpList_store_run rfl 78 (.tmp 8) (.tmp 46) rfl _ _ _ rfl rfl hst ?_
            obtain ⟨g8, hg8⟩ : ∃ g, g = wz.heap.size := ⟨_, rfl⟩
            rw [← hg8] at hG8 hXG ⊢
            generalize (wz.alloc (.cells #[.int .i64 0, .int .i64 0] 78)).setRow g8 #[.int .i64 r.addr, .int .i64 r.off] = wy at *
            dsimp only [Act.put]
            obtain ⟨r0, r1⟩ := blk2 hG8
            have hXX := hX.trans hXG
            have hGy := hXG.heap hG
            replace hown := hown.ext hXG
            have hwr : IntKind.i64.wrap (r.addr - last) = r.addr - last := by rw [IntKind.wrap_i64]; omega
            clear hst hld hrs hXG hX hg8 hG
            have hAN := (Ext.refl wy).alloc (.cells #[.int .i64 (r.addr - last), .int .i64 r.off] 3)
            have hBN : InI ((wy).alloc (.cells #[.int .i64 (r.addr - last), .int .i64 r.off] 3)) (.slice (some ⟨(wy).heap.size, 0, none⟩) 2 2) [r.addr - last, r.off] := ⟨_, 2, rfl, Nat.le_refl _, Rd_blk (heap_alloc_new (wy) (.cells #[.int .i64 (r.addr - last), .int .i64 r.off] 3))⟩
            have hoN := hown.ext hAN
            have hsN := Nat.le_trans hXX.size hAN.size
            obtain ⟨cvs, hcvs⟩ : ∃ c, c = [r.addr - last, r.off] := ⟨_, rfl⟩
            have hcvl : cvs.length = 2 := by rw [hcvs]; rfl
            have hokv : Okv cvs := by rw [hcvs]; unfold Okv; simp only [List.mem_cons, List.not_mem_nil, or_false, forall_eq_or_imp, forall_eq]; omega
            rw [← hcvs] at hBN
            have HCVS := Lib.hid hcvs
            have HCVL := Lib.hid hcvl
            have HOKV := Lib.hid hokv
            clear hcvs hcvl hokv
            go_wp2_with (at_builtin; go_must (refine wpList_appendV elem_in20 (fun _ => rfl) rfl (.tmp 47) (.tmp 54) rfl w.heap.size _ cu rfl hoN _ cvs rfl hBN (by have := HCVL.out; omega) (by omega) hsN (Hold.out ?_)))
            refine Hold.mk fun v9 w9 ho9 hg9 => ?_
            have hX9 := hg9.ext (hXX.trans hAN) hoN.ge
            have hG2 := blk_grown (hAN.heap hGy) hg9.grown (fun e => hoN.ne_blk (hAN.heap hGy) (by decide) e.symm)
            have hG82 := blk_grown (hAN.heap hG8) hg9.grown (fun e => hoN.ne_blk (hAN.heap hG8) (by decide) e.symm)
            obtain ⟨cun, hcn⟩ : ∃ c, c = cu ++ cvs := ⟨_, rfl⟩
            have hcln : cun.length ≤ 4 + 4 * j + 4 * N + 4 * (k + 1) := by rw [hcn, List.length_append, HCVL.out]; omega
            have HKn : Hid (Okv cun) := Lib.hid (by rw [hcn]; exact HK2.out.app HOKV.out)
            rw [← hcn] at ho9
            have HCN : Hid (cun = cur2 ++ stepsN t.lo (t.steps.take (k + 1))) := Lib.hid (by
              rw [hcn, HCU.out, HTS.out, stepsN_snoc, List.append_assoc, ← HLA.out, HCVS.out])
            have HLN : Hid (r.addr = lastA t.lo (t.steps.take (k + 1))) := Lib.hid (by rw [HTS.out, lastA_snoc])
            clear hAN hBN hoN hsN hg9 hown hXX hGy hG8 r0 r1 hcn hwr HCVS HCVL HOKV
            obtain ⟨r0, r1⟩ := blk2 hG82
            go_wp2_with fail
            go_roundw
            case rel => exact ⟨k + 1, cun, r.addr, by omega, by first | (with_reducible rfl) | go_num, rfl, by omega, HCN, HLN, HLN2, hcln, HKn, ho9, hG2, hX9⟩
            case measure => simp [intOf]; omega
          · have hik : ¬ (k : Int) < (n2 : Int) := by omega
            have HCS : Hid (cu = cur2 ++ stepsN t.lo t.steps) := Lib.hid (by have := HCU.out; rw [List.take_of_length_le (by have := HN2.out; omega)] at this; exact this)
            obtain ⟨r0, r1, r2, r3⟩ := blkR hG
            go_upto_region 16 with fail
            have hAN := (Ext.refl wz).alloc (.cells #[.int .i64 (n3 : Int)] 3)
            have hBN : InI ((wz).alloc (.cells #[.int .i64 (n3 : Int)] 3)) (.slice (some ⟨(wz).heap.size, 0, none⟩) 1 1) [(n3 : Int)] := ⟨_, 1, rfl, Nat.le_refl _, Rd_blk (heap_alloc_new (wz) (.cells #[.int .i64 (n3 : Int)] 3))⟩
            have hoN := hown.ext hAN
            have hsN := Nat.le_trans hX.size hAN.size
            obtain ⟨cvs, hcvs⟩ : ∃ c, c = [(n3 : Int)] := ⟨_, rfl⟩
            have hcvl : cvs.length = 1 := by rw [hcvs]; rfl
            have hokv : Okv cvs := by rw [hcvs]; unfold Okv; simp only [List.mem_cons, List.not_mem_nil, or_false, forall_eq_or_imp, forall_eq]; omega
            rw [← hcvs] at hBN
            have HCVS := Lib.hid hcvs
            have HCVL := Lib.hid hcvl
            have HOKV := Lib.hid hokv
            clear hcvs hcvl hokv
            go_wp2_with (at_builtin; go_must (refine wpList_appendV elem_in20 (fun _ => rfl) rfl (.tmp 59) (.tmp 63) rfl w.heap.size _ cu rfl hoN _ cvs rfl hBN (by have := HCVL.out; omega) (by omega) hsN (Hold.out ?_)))
            refine Hold.mk fun v9 w9 ho9 hg9 => ?_
            have hX9 := hg9.ext (hX.trans hAN) hoN.ge
            have hG2 := blk_grown (hAN.heap hG) hg9.grown (fun e => hoN.ne_blk (hAN.heap hG) (by decide) e.symm)
            obtain ⟨cur3, hc3⟩ : ∃ c, c = cu ++ cvs := ⟨_, rfl⟩
            have hcl3 : cur3.length ≤ 4 + 4 * j + 4 * N + 4 * n2 + 1 := by rw [hc3, List.length_append, HCVL.out]; omega
            have HK3 : Hid (Okv cur3) := Lib.hid (by rw [hc3]; exact HK2.out.app HOKV.out)
            rw [← hc3] at ho9
            have HC3 : Hid (cur3 = cu ++ [(n3 : Int)]) := Lib.hid (by rw [hc3, HCVS.out])
            clear hAN hBN hoN hsN hg9 hown hX hG r0 r1 r2 r3 hc3 hcul HCU HLA HLS HK2 HCVS HCVL HOKV
            obtain ⟨r0, r1, r2, r3⟩ := blkR hG2
            go_wp2_with fail
            clear r0 r1 r2 r3 hik
            go_loopw [3, 68] (fun v i wr => ∃ (q : Nat) (cv : List Int), q ≤ n3 ∧ i = .int .i64 (q : Int) ∧ Hid (cv = cur3 ++ (t.objs.take q).flatMap objN) ∧ cv.length ≤ 5 + 4 * j + 4 * N + 4 * n2 + 4 * q ∧ Hid (Okv cv) ∧ OwnV iv 3 w.heap.size wr v cv ∧ wr.heap[g5]? = some (.cells #[.int .i64 t.lo, .int .i64 t.hi, .slice A2 n2 c2, .slice A3 n3 c3] 27 (0, 0)) ∧ Ext w wr) (fun _ i _ => n3 - (intOf i).toNat)
            case atStart => exact ⟨0, cur3, by omega, rfl, Lib.hid (by simp), by omega, HK3, ho9, hG2, hX9⟩
            case round =>
              clear ho9 hG2 hX9 HK3
              obtain ⟨q, cv, hq, rfl, HCV, hcvl, HK3, hown, hG, hX⟩ := hrel
              obtain ⟨wq, rfl⟩ : ∃ wq : World, wq = wr := ⟨_, rfl⟩
              by_cases hltq : q < n3
              · have hiq : (q : Int) < (n3 : Int) := by omega
                have hltq' : q < t.objs.length := by rw [← HN3.out]; exact hltq
                obtain ⟨b3, o3, hAe, hrs⟩ := (HW2.out.ext hX).at_ (k := 4) (fun _ _ => rfl) (by omega) hltq'
                subst hAe
                have HTS := Lib.hid (List.take_succ_eq_append_getElem hltq')
                have hso := HOO.out _ (List.getElem_mem hltq')
                generalize t.objs[q] = o at *
                unfold okObj at hso
                have hld := obj_load hrs
                obtain ⟨hst, hG8, hXG⟩ := box_new (P := Try.prog) wq 83 #[.int .i64 0, .int .i64 0, .int .i64 0, .int .i64 0] #[.int .i64 o.ctx, .int .i64 o.var, .int .i64 o.slot, .int .i64 o.words] ob_size rfl (by simp [Value.oneCell'])
                go_upto_region 20 with first | refine wpList_load_run rfl 83 (.tmp 70) rfl _ _ rfl hld ?_ | refine wpList_store_run rfl 83 (.tmp 10) (.tmp 71) rfl _ _ _ rfl rfl hst ?_
                obtain ⟨g8, hg8⟩ : ∃ g, g = wq.heap.size := ⟨_, rfl⟩
                rw [← hg8] at hG8 hXG ⊢
                generalize (wq.alloc (.cells #[.int .i64 0, .int .i64 0, .int .i64 0, .int .i64 0] 83)).setRow g8 #[.int .i64 o.ctx, .int .i64 o.var, .int .i64 o.slot, .int .i64 o.words] = wy at *
                dsimp only [Act.put]
                obtain ⟨r0, r1, r2, r3⟩ := blkR hG8
                have hXX := hX.trans hXG
                have hGy := hXG.heap hG
                replace hown := hown.ext hXG
                clear hst hld hrs hXG hX hg8 hG
                have hAN := (Ext.refl wy).alloc (.cells #[.int .i64 o.ctx, .int .i64 o.var, .int .i64 o.slot, .int .i64 o.words] 3)
                have hBN : InI ((wy).alloc (.cells #[.int .i64 o.ctx, .int .i64 o.var, .int .i64 o.slot, .int .i64 o.words] 3)) (.slice (some ⟨(wy).heap.size, 0, none⟩) 4 4) [o.ctx, o.var, o.slot, o.words] := ⟨_, 4, rfl, Nat.le_refl _, Rd_blk (heap_alloc_new (wy) (.cells #[.int .i64 o.ctx, .int .i64 o.var, .int .i64 o.slot, .int .i64 o.words] 3))⟩
                have hoN := hown.ext hAN
                have hsN := Nat.le_trans hXX.size hAN.size
                obtain ⟨cvs, hcvs⟩ : ∃ c, c = [o.ctx, o.var, o.slot, o.words] := ⟨_, rfl⟩
                have hcvl : cvs.length = 4 := by rw [hcvs]; rfl
                have hokv : Okv cvs := by rw [hcvs]; unfold Okv; simp only [List.mem_cons, List.not_mem_nil, or_false, forall_eq_or_imp, forall_eq]; omega
                rw [← hcvs] at hBN
                have HCVS := Lib.hid hcvs
                have HCVL := Lib.hid hcvl
                have HOKV := Lib.hid hokv
                clear hcvs hcvl hokv
                go_wp2_with (at_builtin; go_must (refine wpList_appendV elem_in20 (fun _ => rfl) rfl (.tmp 72) (.tmp 81) rfl w.heap.size _ cv rfl hoN _ cvs rfl hBN (by have := HCVL.out; omega) (by omega) hsN (Hold.out ?_)))
                refine Hold.mk fun v9 w9 ho9 hg9 => ?_
                have hX9 := hg9.ext (hXX.trans hAN) hoN.ge
                have hG2 := blk_grown (hAN.heap hGy) hg9.grown (fun e => hoN.ne_blk (hAN.heap hGy) (by decide) e.symm)
                obtain ⟨cun, hcn⟩ : ∃ c, c = cv ++ cvs := ⟨_, rfl⟩
                have hcln : cun.length ≤ 5 + 4 * j + 4 * N + 4 * n2 + 4 * (q + 1) := by rw [hcn, List.length_append, HCVL.out]; omega
                have HKn : Hid (Okv cun) := Lib.hid (by rw [hcn]; exact HK3.out.app HOKV.out)
                rw [← hcn] at ho9
                have HCN : Hid (cun = cur3 ++ (t.objs.take (q + 1)).flatMap objN) := Lib.hid (by
                  rw [hcn, HCV.out, HTS.out, List.flatMap_append, List.append_assoc, HCVS.out]
                  simp [objN])
                clear hAN hBN hoN hsN hg9 hown hXX hGy hG8 r0 r1 r2 r3 hcn HCVS HCVL HOKV
                go_wp2_with fail
                go_roundw
                case rel => exact ⟨q + 1, cun, by omega, by first | (with_reducible rfl) | go_num, HCN, hcln, HKn, ho9, hG2, hX9⟩
                case measure => simp [intOf]; omega
              · have hiq : ¬ (q : Int) < (n3 : Int) := by omega
                have HCE : Hid (cv = [(l.length : Int)] ++ (l.take (j + 1)).flatMap tabN) := Lib.hid (by
                  have h1 := HCV.out
                  rw [List.take_of_length_le (by have := HN3.out; omega)] at h1
                  rw [h1, HC3.out, HCS.out, HC2.out, HC.out, HTK.out, List.flatMap_append]
                  simp only [List.flatMap_cons, List.flatMap_nil, List.append_nil, tabN, ← HN2.out, ← HN3.out, List.append_assoc])
                have HNN : Hid (N + (n2 + n3) = itemsN (l.take (j + 1))) := Lib.hid (by rw [HSU.out, ← HN.out])
                have hcle : cv.length ≤ 1 + 4 * (j + 1) + 4 * (N + (n2 + n3)) := by omega
                clear HCV hcvl
                go_wp2_with fail
                go_roundw
                case rel => exact ⟨j + 1, N + (n2 + n3), cv, by omega, by first | (with_reducible rfl) | go_num, HCE, hcle, hrl8, HNN, HK3, hown, hX⟩
                case measure => simp [intOf]; omega
      · have hij : ¬ (j : Int) < (l.length : Int) := by omega
        have HCE : Hid (numB cur = encFs l) := Lib.hid (by rw [HC.out, List.take_of_length_le (by omega)]; exact tabsN_B l)
        have hin := hown.inV
        obtain ⟨A5, c5, hy5, _, hrd⟩ := id hin
        obtain ⟨n5, hn5⟩ : ∃ n5, n5 = cur.length := ⟨_, rfl⟩
        rw [← hn5] at hy5 hcl
        subst hy5
        have HN5 := Lib.hid hn5
        have HIN := Lib.hid hrd
        clear hn5 HC HN hown hin hrd
        go_wp2_with fail
        go_loopw [11, 87] (fun v i wr => ∃ (q : Nat) (bs : List UInt8), q ≤ n5 ∧ i = .int .i64 (q : Int) ∧ Hid (bs = numB (cur.take q)) ∧ bs.length ≤ 10 * q ∧ OwnV bv 5 wo.heap.size wr v bs ∧ Ext wo wr) (fun _ i _ => n5 - (intOf i).toNat)
        case atStart => exact ⟨0, [], by omega, rfl, Lib.hid (by simp [numB]), by simp, OwnV.nil _, Ext.refl _⟩
        case round =>
          obtain ⟨q, bs, hq, rfl, HB, hbl, hown, hXo⟩ := hrel
          obtain ⟨wq, rfl⟩ : ∃ wq : World, wq = wr := ⟨_, rfl⟩
          by_cases hltq : q < n5
          · have hiq : (q : Int) < (n5 : Int) := by omega
            have hltq' : q < cur.length := by rw [← HN5.out]; exact hltq
            obtain ⟨bb, oo, rfl, hc0⟩ := (HIN.out.ext hXo).at2 (k := q) (by simpa using hltq')
            have HTS := Lib.hid (List.take_succ_eq_append_getElem hltq')
            have hxr := HK.out _ (List.getElem_mem hltq')
            have hcell : wq.cell? ⟨bb, oo + q, none⟩ = some (.int .i64 cur[q]) := by rw [hc0]; simp [iv]
            generalize cur[q] = x at *
            clear hc0
            go_wp2_with fail
            refine (refAppendUint_any _ [] x wq (InV.nil wq) (by simp) (by omega)).mono ?_
            rintro en w5 ⟨y5, rfl, ho5, he5⟩
            have hi5 : InB w5 y5 (uintB x) := by simpa using ho5.toV.inV
            have hown5 := hown.ext he5
            have hXo5 := hXo.trans he5
            have hul := uintB_len (v := x) (by omega)
            have hsz5 := hXo5.size
            obtain ⟨ux, hux⟩ : ∃ u, u = uintB x := ⟨_, rfl⟩
            rw [← hux] at hi5 hul
            have HUX := Lib.hid hux
            have hcl5 : n5 ≤ 32033 := by omega
            clear ho5 he5 hown hXo hcell hux
            go_wp2_with (at_builtin; go_must (refine wpList_appendV elem_u8 (fun _ => rfl) rfl (.tmp 91) (.tmp 93) rfl wo.heap.size _ bs rfl hown5 _ ux rfl hi5 (by omega) (by omega) hsz5 (Hold.out ?_)))
            refine Hold.mk fun v9 w9 ho9 hg9 => ?_
            have hXo9 : Ext wo w9 := hg9.ext hXo5 hown5.ge
            obtain ⟨bn, hbn⟩ : ∃ b, b = bs ++ ux := ⟨_, rfl⟩
            have hbl2 : bn.length ≤ 10 * (q + 1) := by rw [hbn, List.length_append]; omega
            rw [← hbn] at ho9
            have HBN : Hid (bn = numB (cur.take (q + 1))) := Lib.hid (by
              rw [hbn, HTS.out, numB_app, HB.out, HUX.out]
              simp [numB])
            clear hg9 hown5 hXo5 hi5 hbn
            go_wp2_with fail
            go_roundw
            case rel => exact ⟨q + 1, bn, by omega, by first | (with_reducible rfl) | go_num, HBN, hbl2, ho9, hXo9⟩
            case measure => simp [intOf]; omega
          · have hiq : ¬ (q : Int) < (n5 : Int) := by omega
            have HBE : Hid (bs = encFs l) := Lib.hid (by rw [HB.out, List.take_of_length_le (by rw [← HN5.out]; omega)]; exact HCE.out)
            obtain ⟨A6, c6, hy6, _, _⟩ := hown.inV
            obtain ⟨n6, hn6⟩ : ∃ n6, n6 = bs.length := ⟨_, rfl⟩
            rw [← hn6] at hy6
            subst hy6
            have HN6 := Lib.hid hn6
            clear hn6 HB
            by_cases h6 : 60000 < n6
            · have d6 : decide ((60000 : Int) < (n6 : Int)) = true := by simp; omega
              have HE : Hid (EncF l = []) := Lib.hid (by unfold EncF; rw [if_pos HR.out, if_neg (by rw [← HBE.out, ← HN6.out]; omega)])
              go_wp2_with fail
              refine bodyPost_ret (by simp [results, Try.results19, go_sem]; rfl) rfl ?_
              exact ⟨_, rfl, by rw [HE.out]; exact OwnV.nil _, hX.trans hXo⟩
            · have d6 : decide ((60000 : Int) < (n6 : Int)) = false := by simp; omega
              have HE : Hid (EncF l = bs) := Lib.hid (by unfold EncF; rw [if_pos HR.out, if_pos (by rw [← HBE.out, ← HN6.out]; omega)]; exact HBE.out.symm)
              go_wp2_with fail
              refine bodyPost_ret (by simp [results, Try.results19, go_sem]; rfl) rfl ?_
              exact ⟨_, rfl, by rw [HE.out]; exact hown.low hX.size, hX.trans hXo⟩
end Go.Proofs.Ytokmbdeafjmcjaa
