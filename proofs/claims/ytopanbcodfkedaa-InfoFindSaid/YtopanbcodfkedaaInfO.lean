/- The walk of InfoFind. -/
import Derived.Test.YtopanbcodfkedaaInfN
namespace Go.Proofs.Ytopanbcodfkedaa
open Go.RowKit
set_option linter.unusedVariables false
set_option linter.unusedSimpArgs false

def firstA (l : List Att) (k : Nat) (nm : Int) : Bool := decide (∀ a ∈ l.take k, a.name ≠ nm)
theorem firstA_succ {l : List Att} {k : Nat} (hk : k < l.length) (nm : Int) : firstA l (k + 1) nm = (firstA l k nm && decide (l[k].name ≠ nm)) := by
  unfold firstA
  rw [Bool.eq_iff_iff, Bool.and_eq_true, decide_eq_true_eq, decide_eq_true_eq, decide_eq_true_eq, List.take_succ_eq_append_getElem hk]
  constructor
  · intro h
    exact ⟨fun a ha => h a (List.mem_append_left _ ha), h _ (List.mem_append_right _ (List.mem_singleton_self _))⟩
  · rintro ⟨h1, h2⟩ a ha
    rcases List.mem_append.1 ha with ha | ha
    · exact h1 a ha
    · rw [List.mem_singleton.1 ha]; exact h2
set_option maxHeartbeats 40000000 in
set_option maxRecDepth 100000 in
theorem findLaw_walk (d t : Int) (A : Option Addr) (n c : Nat) (l : List Att) (nm : Int) (w : World) (hy : InR attCells w (.slice A n c) l) (hn : n = l.length) :
    Calls Try.prog 6 #[.agg #[.int .i64 d, .int .i64 t, .slice A n c], .int .i64 nm] w (OneOf (.bool true) w) := by
  have HY := Lib.hid hy
  have HN := Lib.hid hn
  clear hy hn
  go_enter Try.func6, Try.ntmps6
  go_upto_region 1 with fail
  obtain ⟨W, hW, hE, hG2⟩ : ∃ W, W = w.alloc (.cells #[.int .i64 d, .int .i64 t, .slice A n c] 26) ∧ Ext w W ∧ W.heap[w.heap.size]? = some (.cells #[.int .i64 d, .int .i64 t, .slice A n c] 26 (0, 0)) := ⟨_, rfl, (Ext.refl w).alloc _, heap_alloc_new w _⟩
  rw [← hW]
  clear hW
  obtain ⟨g2, hg2⟩ : ∃ g, g = w.heap.size := ⟨_, rfl⟩
  rw [← hg2] at hG2 ⊢
  clear hg2
  obtain ⟨r0, r1, r2⟩ := blk3 hG2
  by_cases h100 : 100 < n
  case pos =>
    have d1 : decide ((100 : Int) < (n : Int)) = true := by simp; omega
    clear h100
    go_wp2_with fail
    refine (known21_any W).mono ?_
    rintro en w1 ⟨rfl, hx1⟩
    have hX := hE.trans hx1
    go_wp2_with fail
    go_ret
    exact ⟨rfl, hX⟩
  have d1 : decide ((100 : Int) < (n : Int)) = false := by simp; omega
  have hldt := run_loadAt_blk (P := Try.prog) W g2 26 26 _ (0, 0) _ hG2 Try.underlying26 rfl en_size
  go_wp2_with first | refine wpList_load_run rfl 26 (.tmp 2) rfl _ _ rfl hldt ?_
  have hcl := find_any d t A n c l nm W (HY.out.ext hE) HN.out (by omega)
  clear hldt d1 r0 r1 r2
  obtain ⟨r, hr⟩ : ∃ r, r = (findA l nm).getD attZ := ⟨_, rfl⟩
  obtain ⟨fb, hfb⟩ : ∃ fb, fb = (findA l nm).isSome := ⟨_, rfl⟩
  rw [← hr, ← hfb] at hcl
  have HR := Lib.hid hr
  have HFB := Lib.hid hfb
  clear hr hfb
  refine hcl.mono ?_
  clear hcl
  rintro en w1 ⟨rfl, hx1⟩
  have hX1 := hE.trans hx1
  have hG21 := hx1.heap hG2
  obtain ⟨hst, hG, hXG⟩ := box_new (P := Try.prog) w1 40 #[.int .i64 0, .int .i64 0, .int .i64 0, .string ByteArray.empty] #[.int .i64 r.name, .int .i64 r.form, .int .i64 r.value, .string r.text] at_size rfl (by simp [Value.oneCell'])
  go_upto_region 4 with first | refine wpList_store_run rfl 40 (.tmp 5) (.tmp 24) rfl _ _ _ rfl rfl hst ?_
  obtain ⟨g5, hg5⟩ : ∃ g, g = w1.heap.size := ⟨_, rfl⟩
  rw [← hg5] at hG hXG ⊢
  generalize (w1.alloc (.cells #[.int .i64 0, .int .i64 0, .int .i64 0, .string ByteArray.empty] 40)).setRow g5 #[.int .i64 r.name, .int .i64 r.form, .int .i64 r.value, .string r.text] = w2 at *
  try dsimp only [Act.put]
  have hX2 := hX1.trans hXG
  have hG22 := hXG.heap hG21
  clear hst hXG hx1 hX1 hG21 hE hG2 hg5
  have hldt := run_loadAt_blk (P := Try.prog) w2 g2 26 26 _ (0, 0) _ hG22 Try.underlying26 rfl en_size
  go_wp2_with first | refine wpList_load_run rfl 26 (.tmp 2) rfl _ _ rfl hldt ?_
  have hcl := refFind_any d t A n c l nm w2 (HY.out.ext hX2) HN.out (by omega)
  clear hldt
  rw [← HR.out, ← HFB.out] at hcl
  refine hcl.mono ?_
  clear hcl
  rintro en w3 ⟨rfl, hx3⟩
  have hX3 := hX2.trans hx3
  have hG23 := hx3.heap hG22
  have hG53 := hx3.heap hG
  obtain ⟨hst, hG7, hXG⟩ := box_new (P := Try.prog) w3 40 #[.int .i64 0, .int .i64 0, .int .i64 0, .string ByteArray.empty] #[.int .i64 r.name, .int .i64 r.form, .int .i64 r.value, .string r.text] at_size rfl (by simp [Value.oneCell'])
  go_upto_region 5 with first | refine wpList_store_run rfl 40 (.tmp 7) (.tmp 30) rfl _ _ _ rfl rfl hst ?_
  obtain ⟨g7, hg7⟩ : ∃ g, g = w3.heap.size := ⟨_, rfl⟩
  rw [← hg7] at hG7 hXG ⊢
  generalize (w3.alloc (.cells #[.int .i64 0, .int .i64 0, .int .i64 0, .string ByteArray.empty] 40)).setRow g7 #[.int .i64 r.name, .int .i64 r.form, .int .i64 r.value, .string r.text] = w4 at *
  try dsimp only [Act.put]
  have hX4 := hX3.trans hXG
  have hG24 := hXG.heap hG23
  have hG54 := hXG.heap hG53
  clear hst hXG hx3 hX3 hG23 hX2 hG22 hg7 hG hG53
  have hld5 := run_loadAt_blk (P := Try.prog) w4 g5 40 40 _ (0, 0) _ hG54 Try.underlying40 rfl at_size
  have hld7 := run_loadAt_blk (P := Try.prog) w4 g7 40 40 _ (0, 0) _ hG7 Try.underlying40 rfl at_size
  obtain ⟨r0, r1, r2⟩ := blk3 hG24
  go_wp2_with first | refine wpList_load_run rfl 40 (.tmp 5) rfl _ _ rfl hld5 ?_ | refine wpList_load_run rfl 40 (.tmp 7) rfl _ _ rfl hld7 ?_
  clear hld5 hld7 hG54 hG7 r0 r1 r2
  go_loopw [43] (fun i wr => ∃ j : Nat, j ≤ n ∧ i = .int .i64 (j : Int) ∧ wr.heap[g2]? = some (.cells #[.int .i64 d, .int .i64 t, .slice A n c] 26 (0, 0)) ∧ Ext w wr) (fun i _ => n - (intOf i).toNat)
  case atStart => exact ⟨0, by omega, rfl, hG24, hX4⟩
  case round =>
    clear hG24 hX4
    obtain ⟨j, hj, rfl, hG2, hX⟩ := hrel
    obtain ⟨wo, rfl⟩ : ∃ wo : World, wo = wr := ⟨_, rfl⟩
    by_cases hlt : j < n
    · have hij : (j : Int) < (n : Int) := by omega
      have hlt' : j < l.length := by rw [← HN.out]; exact hlt
      obtain ⟨bb, oo, hAe, hra⟩ := (HY.out.ext hX).at_ (k := 4) (fun z hz => rfl) (by omega) hlt'
      subst hAe
      obtain ⟨a, ha⟩ : ∃ a, a = l[j] := ⟨_, rfl⟩
      rw [← ha] at hra
      have HA := Lib.hid ha
      clear ha
      have hld := att_load hra
      obtain ⟨hst, hG, hXG⟩ := box_new (P := Try.prog) wo 40 #[.int .i64 0, .int .i64 0, .int .i64 0, .string ByteArray.empty] #[.int .i64 a.name, .int .i64 a.form, .int .i64 a.value, .string a.text] at_size rfl (by simp [Value.oneCell'])
      go_upto_region 12 with first | refine wpList_load_run rfl 40 (.tmp 46) rfl _ _ rfl hld ?_ | refine wpList_store_run rfl 40 (.tmp 10) (.tmp 47) rfl _ _ _ rfl rfl hst ?_
      obtain ⟨g10, hg10⟩ : ∃ g, g = wo.heap.size := ⟨_, rfl⟩
      rw [← hg10] at hG hXG ⊢
      generalize (wo.alloc (.cells #[.int .i64 0, .int .i64 0, .int .i64 0, .string ByteArray.empty] 40)).setRow g10 #[.int .i64 a.name, .int .i64 a.form, .int .i64 a.value, .string a.text] = wg at *
      try dsimp only [Act.put]
      have hX2 := hX.trans hXG
      have hG22 := hXG.heap hG2
      clear hst hld hra hXG hg10 hX hG2
      have hat : ∀ k, k < j → ∃ z : Att, l[k]? = some z ∧ wg.cell? ⟨bb, oo + k * 4, none⟩ = some (.int .i64 z.name) := fun k hk => by
        have hkl : k < l.length := by omega
        obtain ⟨b2, o2, he, h2⟩ := (HY.out.ext hX2).at_ (k := 4) (fun z hz => rfl) (by omega) hkl
        injection he with he
        injection he with e1 e2 _
        subst e1 e2
        exact ⟨l[k], List.getElem?_eq_getElem hkl, by simpa using h2 0 _ rfl⟩
      have HAT := Lib.hid hat
      clear hat
      obtain ⟨r0, r1, r2⟩ := blk3 hG22
      obtain ⟨q0, q1, q2, q3⟩ := blkR hG
      go_loopw [11, 12] (fun fv i wr => ∃ (k : Nat) (fb : Bool), k ≤ j ∧ i = .int .i64 (k : Int) ∧ fv = .bool fb ∧ Hid (fb = firstA l k a.name) ∧ ∃ m, wr = wg.drewN m) (fun _ i _ => j - (intOf i).toNat)
      case atStart => exact ⟨0, true, by omega, rfl, rfl, Lib.hid (by unfold firstA; simp), 0, rfl⟩
      case round =>
        obtain ⟨k, fb2, hk, rfl, rfl, HF, m, rfl⟩ := hrel
        by_cases hkj : k < j
        · have hkk : (k : Int) < (j : Int) := by omega
          obtain ⟨z, hz, hzc⟩ := HAT.out k hkj
          have hkn : (k : Int) < (n : Int) := by omega
          have HFN : Hid (firstA l (k + 1) a.name = (fb2 && decide (z.name ≠ a.name))) := Lib.hid (by
            have hkl : k < l.length := by omega
            rw [List.getElem?_eq_getElem hkl] at hz
            injection hz with hz
            rw [firstA_succ hkl, hz, HF.out])
          clear hz
          cases fb2 with
          | false =>
            have HFM : Hid (false = firstA l (k + 1) a.name) := Lib.hid (by rw [HFN.out]; rfl)
            go_wp2_with fail
            go_quiet (fail)
            go_wp2_with fail
            go_roundw
            case rel => exact ⟨k + 1, false, by omega, by first | (with_reducible rfl) | go_num, rfl, HFM, _, rfl⟩
            case measure => simp [intOf]; omega
          | true =>
            obtain ⟨cb, hcb⟩ : ∃ cb, cb = decide (z.name ≠ a.name) := ⟨_, rfl⟩
            have e1 : (z.name != a.name) = cb := by rw [hcb]; by_cases h : z.name = a.name <;> simp [h]
            have HFM : Hid (cb = firstA l (k + 1) a.name) := Lib.hid (by rw [HFN.out, hcb]; rfl)
            clear hcb
            go_wp2_with fail
            go_quiet (fail)
            go_wp2_with fail
            go_roundw
            case rel => exact ⟨k + 1, cb, by omega, by first | (with_reducible rfl) | go_num, rfl, HFM, _, rfl⟩
            case measure => simp [intOf]; omega
        · have hkk : ¬ (k : Int) < (j : Int) := by omega
          have hkj' : k = j := by omega
          have hXd := (Ext.refl wg).drewN m
          have hX5 := hX2.trans hXd
          have hG25 := hXd.heap hG22
          have hG5 := hXd.heap hG
          have HFJ : Hid (fb2 = true → findA l a.name = some a) := Lib.hid (fun h => by
            have h1 := HF.out
            rw [h, hkj'] at h1
            have h2 := of_decide_eq_true h1.symm
            rw [HA.out] at h2 ⊢
            exact findA_first hlt' h2)
          obtain ⟨y, hy⟩ : ∃ y, findA l a.name = some y := by rw [HA.out]; exact findA_some hlt'
          have HYY : Hid (fb2 = true → y = a) := Lib.hid (fun h => by
            have := HFJ.out h
            rw [hy] at this
            injection this)
          have HYV := Lib.hid hy
          clear hkj' hX2 hG22 hG hy HFJ r0 r1 r2 q0 q1 q2 q3 hXd
          generalize wg.drewN m = wh at *
          obtain ⟨q0, q1, q2, q3⟩ := blkR hG5
          have hldt := run_loadAt_blk (P := Try.prog) wh g2 26 26 _ (0, 0) _ hG25 Try.underlying26 rfl en_size
          go_wp2_with first | refine wpList_load_run rfl 26 (.tmp 2) rfl _ _ rfl hldt ?_
          have hcl := find_any d t (some ⟨bb, oo, none⟩) n c l a.name wh (HY.out.ext hX5) HN.out (by omega)
          clear hldt
          rw [HYV.out] at hcl
          refine hcl.mono ?_
          clear hcl
          rintro en w6 ⟨rfl, hx6⟩
          have hX6 := hX5.trans hx6
          have hG26 := hx6.heap hG25
          have hG6 := hx6.heap hG5
          dsimp only [Option.getD_some, Option.isSome_some]
          obtain ⟨hst, hG13, hXG⟩ := box_new (P := Try.prog) w6 40 #[.int .i64 0, .int .i64 0, .int .i64 0, .string ByteArray.empty] #[.int .i64 y.name, .int .i64 y.form, .int .i64 y.value, .string y.text] at_size rfl (by simp [Value.oneCell'])
          go_upto_region 16 with first | refine wpList_store_run rfl 40 (.tmp 13) (.tmp 70) rfl _ _ _ rfl rfl hst ?_
          obtain ⟨g13, hg13⟩ : ∃ g, g = w6.heap.size := ⟨_, rfl⟩
          rw [← hg13] at hG13 hXG ⊢
          generalize (w6.alloc (.cells #[.int .i64 0, .int .i64 0, .int .i64 0, .string ByteArray.empty] 40)).setRow g13 #[.int .i64 y.name, .int .i64 y.form, .int .i64 y.value, .string y.text] = w7 at *
          try dsimp only [Act.put]
          have hX7 := hX6.trans hXG
          have hG27 := hXG.heap hG26
          have hG7 := hXG.heap hG6
          clear hst hXG hx6 hX6 hG26 hG6 hX5 hG25 hG5 hg13 q0 q1 q2 q3
          obtain ⟨q0, q1, q2, q3⟩ := blkR hG7
          obtain ⟨s0, s1, s2, s3⟩ := blkR hG13
          cases fb2 with
          | false =>
            go_wp2_with fail
            go_roundw
            case rel => exact ⟨j + 1, by omega, by first | (with_reducible rfl) | go_num, hG27, hX7⟩
            case measure => simp [intOf]; omega
          | true =>
            have hya := HYY.out rfl
            subst hya
            go_wp2_with fail
            go_roundw
            case rel => exact ⟨j + 1, by omega, by first | (with_reducible rfl) | go_num, hG27, hX7⟩
            case measure => simp [intOf]; omega
    · have hij : ¬ (j : Int) < (n : Int) := by omega
      go_wp2_with fail
      refine (known21_any wo).mono ?_
      rintro en w9 ⟨rfl, hx9⟩
      have hX9 := hX.trans hx9
      go_wp2_with fail
      go_ret
      exact ⟨rfl, hX9⟩
end Go.Proofs.Ytopanbcodfkedaa
