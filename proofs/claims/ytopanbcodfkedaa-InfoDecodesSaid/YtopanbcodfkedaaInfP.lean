/- The tree that the statements make from numbers: the walk. -/
import Derived.Test.YtopanbcodfkedaaInfM
namespace Go.Proofs.Ytopanbcodfkedaa
open Go.RowKit
set_option linter.unusedVariables false
set_option linter.unusedSimpArgs false

/-- attributes of a tree that the statements make -/
structure AG (m : Nat) (l : List Att) : Prop where
  len : l.length = m
  ok : ∀ a ∈ l, okAtt a ∧ a.I
  names : l.map Att.name = (List.range m).map (fun i : Nat => (i : Int) + 1)
theorem AG.nil : AG 0 [] := ⟨rfl, by simp, rfl⟩
theorem AG.push {m : Nat} {l : List Att} (h : AG m l) {a : Att} (h1 : okAtt a) (h2 : a.I) (h3 : a.name = (m : Int) + 1) : AG (m + 1) (l ++ [a]) := by
  refine ⟨by rw [List.length_append, h.len]; rfl, fun x hx => ?_, ?_⟩
  · rcases List.mem_append.1 hx with hx | hx
    · exact h.ok x hx
    · rw [List.mem_singleton.1 hx]; exact ⟨h1, h2⟩
  · rw [List.map_append, h.names, List.range_succ, List.map_append]
    simp [h3]
theorem AG.atts {m : Nat} {l : List Att} (h : AG m l) (hm : m ≤ 3) : okAtts l := by
  refine ⟨by rw [h.len]; omega, fun a ha => (h.ok a ha).1, ?_⟩
  rw [h.names]
  exact List.Pairwise.map _ (fun a b (hab : a ≠ b) e => hab (by omega)) List.nodup_range
/-- a tree that the statements make -/
structure TG (l : List Ent) : Prop where
  right : RightE l
  int : ∀ e ∈ l, e.I
  few : ∀ e ∈ l, e.attrs.length ≤ 3
  flat : ∀ e ∈ l, 0 ≤ e.depth ∧ e.depth ≤ 6
  root : ∃ c, l = ⟨0, 1, []⟩ :: c
theorem TG.push {l : List Ent} (h : TG l) {e : Ent} (h1 : okEnt l e) (h2 : e.I) (h3 : e.attrs.length ≤ 3) (h4 : 0 ≤ e.depth ∧ e.depth ≤ 6) (h5 : l.length < 4000) : TG (l ++ [e]) := by
  have hm : ∀ (P : Ent → Prop), (∀ x ∈ l, P x) → P e → ∀ x ∈ l ++ [e], P x := fun P a b x hx => by
    rcases List.mem_append.1 hx with hx | hx
    · exact a x hx
    · rw [List.mem_singleton.1 hx]; exact b
  refine ⟨⟨by rw [List.length_append]; simp only [List.length_cons, List.length_nil]; omega, fun i hi => ?_⟩, hm _ h.int h2, hm _ h.few h3, hm _ h.flat h4, by obtain ⟨c, hc⟩ := h.root; exact ⟨c ++ [e], by rw [hc]; rfl⟩⟩
  by_cases hil : i < l.length
  · have := h.right.2 i hil
    rw [List.take_append_of_le_length (by omega), List.getElem_append_left hil]
    exact this
  · have hie : i = l.length := by rw [List.length_append] at hi; simp only [List.length_cons, List.length_nil] at hi; omega
    subst hie
    rw [List.take_append_of_le_length (by omega), List.take_length]
    simpa using h1
theorem TG.one : TG [⟨0, 1, []⟩] := by
  refine ⟨⟨by simp, fun i h => ?_⟩, ?_, ?_, ?_, ⟨[], rfl⟩⟩
  · have : i = 0 := by simp only [List.length_cons, List.length_nil] at h; omega
    subst this
    exact ⟨rfl, by simp, by simp, by simp, by simp⟩
  · intro e he
    rw [List.mem_singleton.1 he]
    exact ⟨by unfold I64; simp, by simp, by simp⟩
  · intro e he
    rw [List.mem_singleton.1 he]
    simp
  · intro e he
    rw [List.mem_singleton.1 he]
    simp
def TreePst (w : World) (en : Ending) (w' : World) : Prop := ∃ y l, en = .returned y ∧ EOwn w.heap.size w' y l ∧ TG l ∧ l.length ≤ 31 ∧ Ext w w'
set_option maxHeartbeats 40000000 in
set_option maxRecDepth 100000 in
theorem ltree_any (x : Value) (nums : List Int) (w : World) (hx : InI w x nums) (hnl : nums.length ≤ 9223372036854775807) (hI : ∀ q ∈ nums, I64 q) : Calls Try.prog 8 #[x] w (TreePst w) := by
  obtain ⟨A, c, rfl, _, hr1⟩ := id hx
  obtain ⟨n1, hn1⟩ : ∃ n, n = nums.length := ⟨_, rfl⟩
  have HN1 := Lib.hid hn1
  rw [← hn1] at hnl ⊢
  have HR1 := Lib.hid hr1
  have HI := Lib.hid hI
  clear hn1 hr1 hx hI
  go_enter Try.func8, Try.ntmps8
  have hE1 := (Ext.refl w).alloc (.cells #[.int .i64 0, .int .i64 1, .slice none 0 0] 26)
  have hown1 : EOwn w.heap.size (w.alloc (.cells #[.int .i64 0, .int .i64 1, .slice none 0 0] 26)) (.slice (some ⟨w.heap.size, 0, none⟩) 1 1) [⟨0, 1, []⟩] := ⟨[((⟨0, 1, []⟩ : Ent), .slice none 0 0)], rfl, OwnR_one (f := entCells) w ((⟨0, 1, []⟩ : Ent), .slice none 0 0) rfl 26, fun z hz => by rw [List.mem_singleton.1 hz]; exact OwnR.nil _⟩
  go_upto_region 3 with first | refine wpList_rowOne elem_en rfl (.tmp 8) rfl #[.int .i64 0, .int .i64 1, .slice none 0 0] rfl rfl (by omega) ?_
  obtain ⟨v1, hv1⟩ : ∃ v, v = Value.slice (some ⟨w.heap.size, 0, none⟩) 1 1 := ⟨_, rfl⟩
  rw [← hv1] at hown1 ⊢
  clear hv1
  generalize w.alloc (.cells #[.int .i64 0, .int .i64 1, .slice none 0 0] 26) = W1 at *
  go_loopw [3, 4] (fun v i wr => ∃ (l : List Ent) (k : Nat), i = .int .i64 (k : Int) ∧ k + 5 = 5 * l.length ∧ k ≤ 150 ∧ Hid (TG l) ∧ EOwn w.heap.size wr v l ∧ Ext w wr) (fun _ i _ => n1 + 10 - (intOf i).toNat)
  case atStart => exact ⟨[⟨0, 1, []⟩], 0, rfl, by simp, by omega, Lib.hid TG.one, hown1, hE1⟩
  case round =>
    clear hown1 hE1
    obtain ⟨l, k, rfl, hkl, hk150, HT, hown, hX⟩ := hrel
    obtain ⟨wo, rfl⟩ : ∃ wo : World, wo = wr := ⟨_, rfl⟩
    obtain ⟨A3, c3, hv⟩ := hown.in_.form
    obtain ⟨nl, hnl'⟩ : ∃ n, n = l.length := ⟨_, rfl⟩
    rw [← hnl'] at hv hkl
    subst hv
    have HNL := Lib.hid hnl'
    clear hnl'
    have hw4 : IntKind.i64.wrap ((k : Int) + 4) = ((k + 4 : Nat) : Int) := by rw [IntKind.wrap_i64]; omega
    go_upto_region 3 with fail
    go_cut [18] (fun s wx => ∃ d : Bool, s = .bool d ∧ (d = true ↔ k + 4 < n1 ∧ k < 150) ∧ wx = wo)
    case first =>
      by_cases h1 : k + 4 < n1
      · have d1 : decide (((k + 4 : Nat) : Int) < (n1 : Int)) = true := by simp; omega
        by_cases h2 : k < 150
        · have d2 : decide ((k : Int) < 150) = true := by simp; omega
          go_wp2_with fail
          go_meet
          exact ⟨true, rfl, by simp [h1, h2], rfl⟩
        · have d2 : decide ((k : Int) < 150) = false := by simp; omega
          go_wp2_with fail
          go_meet
          exact ⟨false, rfl, by simp [h2], rfl⟩
      · have d1 : decide (((k + 4 : Nat) : Int) < (n1 : Int)) = false := by simp; omega
        go_wp2_with fail
        go_meet
        exact ⟨false, rfl, by simp [h1], rfl⟩
    obtain ⟨d, rfl, hd, hwe⟩ := hcut
    subst hwe
    cases d with
    | false =>
      clear hd
      go_wp2_with fail
      refine bodyPost_ret (by simp [results, Try.results8, go_sem]; rfl) rfl ?_
      exact ⟨_, l, rfl, hown, HT.out, by rw [← HNL.out]; omega, hX⟩
    | true =>
      obtain ⟨wO, rfl⟩ : ∃ W : World, W = wc := ⟨_, rfl⟩
      obtain ⟨hk5, hk15⟩ := hd.1 rfl
      clear hd hw4
      obtain ⟨bp, op, rfl, hz0⟩ := HR1.out.at2 (k := k) (by rw [List.length_map, ← HN1.out]; omega)
      clear hz0
      have HPC : Hid (∀ i, i < n1 → ∃ q : Int, (I64 q) ∧ ∀ W, Ext w W → W.cell? ⟨bp, op + i, none⟩ = some (.int .i64 q)) := Lib.hid fun i hi => by
        have hip : i < nums.length := by rw [← HN1.out]; exact hi
        obtain ⟨b', o', e', hc⟩ := HR1.out.at2 (k := i) (by simpa using hip)
        cases e'
        exact ⟨nums[i], HI.out _ (List.getElem_mem hip), fun W hW => by rw [hW.cell hc]; simp [iv]⟩
      obtain ⟨k1, hk1⟩ : ∃ k1, k1 = k + 1 := ⟨_, rfl⟩
      obtain ⟨k2, hk2⟩ : ∃ k2, k2 = k + 2 := ⟨_, rfl⟩
      obtain ⟨k3, hk3⟩ : ∃ k3, k3 = k + 3 := ⟨_, rfl⟩
      obtain ⟨k4, hk4⟩ : ∃ k4, k4 = k + 4 := ⟨_, rfl⟩
      obtain ⟨q0, hq0, hc0⟩ := HPC.out k (by omega)
      obtain ⟨q1, hq1, hc1⟩ := HPC.out k1 (by omega)
      obtain ⟨q2, hq2, hc2⟩ := HPC.out k2 (by omega)
      obtain ⟨q3, hq3, hc3⟩ := HPC.out k3 (by omega)
      obtain ⟨q4, hq4, hc4⟩ := HPC.out k4 (by omega)
      have hw1 : IntKind.i64.wrap ((k : Int) + 1) = (k1 : Int) := by rw [IntKind.wrap_i64]; omega
      have hw2 : IntKind.i64.wrap ((k : Int) + 2) = (k2 : Int) := by rw [IntKind.wrap_i64]; omega
      have hw3 : IntKind.i64.wrap ((k : Int) + 3) = (k3 : Int) := by rw [IntKind.wrap_i64]; omega
      have hw4 : IntKind.i64.wrap ((k : Int) + 4) = (k4 : Int) := by rw [IntKind.wrap_i64]; omega
      have hi0 : (k : Int) < (n1 : Int) := by omega
      have hi1 : (k1 : Int) < (n1 : Int) := by omega
      have hi2 : (k2 : Int) < (n1 : Int) := by omega
      have hi3 : (k3 : Int) < (n1 : Int) := by omega
      have hi4 : (k4 : Int) < (n1 : Int) := by omega
      have H0 := Lib.hid hc0
      have H1 := Lib.hid hc1
      have H2 := Lib.hid hc2
      have H3 := Lib.hid hc3
      have H4 := Lib.hid hc4
      clear hk1 hk2 hk3 hk4 hc0 hc1 hc2 hc3 hc4 HPC
      obtain ⟨j, hj⟩ : ∃ j, nl = j + 1 := ⟨nl - 1, by omega⟩
      have hjl : j < l.length := by rw [← HNL.out]; omega
      obtain ⟨be, oe, ye, he, hre, _⟩ := hown.in_.at_ hjl
      have hpd := HT.out.flat _ (List.getElem_mem hjl)
      obtain ⟨pd, hpd'⟩ : ∃ d, d = l[j].depth := ⟨_, rfl⟩
      rw [← hpd'] at hpd
      have hce : wO.cell? ⟨be, oe + j * 3, none⟩ = some (.int .i64 pd) := by rw [hpd']; simpa using hre 0 _ rfl
      have HPD := Lib.hid hpd'
      clear hre hpd'
      subst he
      have hwj : IntKind.i64.wrap ((nl : Int) - 1) = (j : Int) := by rw [IntKind.wrap_i64]; omega
      have hij : (j : Int) < (nl : Int) := by omega
      have hwp : IntKind.i64.wrap (pd + 1) = pd + 1 := by rw [IntKind.wrap_i64]; omega
      obtain ⟨dm, hdm, hdr⟩ : ∃ dm : Int, min (pd + 1) 6 = dm ∧ 1 ≤ dm ∧ dm ≤ 6 ∧ dm ≤ pd + 1 := ⟨_, rfl, by omega, by omega, by omega⟩
      obtain ⟨m0, hm0, hm0r⟩ : ∃ m, q0 % dm = m ∧ 0 ≤ m ∧ m < dm := ⟨_, rfl, Int.emod_nonneg _ (by omega), Int.emod_lt_of_pos _ (by omega)⟩
      obtain ⟨m1, hm1, hm1r⟩ : ∃ m, q1 % 5 = m ∧ 0 ≤ m ∧ m < 5 := ⟨_, rfl, Int.emod_nonneg _ (by omega), Int.emod_lt_of_pos _ (by omega)⟩
      obtain ⟨dp, hdp⟩ : ∃ d, d = 1 + m0 := ⟨_, rfl⟩
      obtain ⟨tg, htg⟩ : ∃ d, d = 1 + m1 := ⟨_, rfl⟩
      have hwa : IntKind.i64.wrap (1 + m0) = dp := by rw [IntKind.wrap_i64]; omega
      have hwb : IntKind.i64.wrap (1 + m1) = tg := by rw [IntKind.wrap_i64]; omega
      have HM0 := Lib.hid hm0
      have HM1 := Lib.hid hm1
      have hdpr : 1 ≤ dp ∧ dp ≤ 6 ∧ dp ≤ pd + 1 := by omega
      have htgr : 1 ≤ tg ∧ tg ≤ 5 := by omega
      have HJ := Lib.hid hj
      clear hm0 hm1 hdp htg hj
      go_upto_region 5 with fail
      have c0 := H0.out wO hX
      have c1 := H1.out wO hX
      refine wp_region_X #[true, true, true, true, true, true, true, true, true, true, true, true, true, true, true, true, true, true, true, true, true, true, true, true, false] 24 1 (by kernel_rfl) rfl ?_
      refine wpX_f 23 (.cells #[.int .i64 0, .int .i64 0, .slice none 0 0] 26 (0, 0)) rfl rfl (by kernel_rfl) (by kernel_rfl) (by kernel_rfl) (fun _ _ _ _ h => h) rfl (fun a W => by go_simp) wO.heap.size (Nat.le_refl _) (by kernel_rfl) ?_
      refine wpX_vt 0 (.slice (some ⟨bp, op, none⟩) n1 c) rfl rfl (by kernel_rfl) (by kernel_rfl) (by kernel_rfl) (fun _ _ _ _ h => h) (by kernel_rfl) rfl (by rfl) (fun W' hW => by
        skip
        go_simp) ?_
      simp only [List.setIfInBounds_toArray, List.set_cons_zero, List.set_cons_succ]
      refine wpX_vt 1 (.int .i64 (k : Int)) rfl rfl (by kernel_rfl) (by kernel_rfl) (by kernel_rfl) (fun _ _ _ _ h => h) (by kernel_rfl) rfl (by rfl) (fun W' hW => by
        skip
        go_simp) ?_
      simp only [List.setIfInBounds_toArray, List.set_cons_zero, List.set_cons_succ]
      refine wpX_vt 2 (.pointer (some ⟨bp, op + k, none⟩)) rfl rfl (by kernel_rfl) (by kernel_rfl) (by kernel_rfl) (fun _ _ _ _ h => h) (by kernel_rfl) rfl (by rfl) (fun W' hW => by
        skip
        go_simp) ?_
      simp only [List.setIfInBounds_toArray, List.set_cons_zero, List.set_cons_succ]
      refine wpX_vt 3 (.int .i64 q0) rfl rfl (by kernel_rfl) (by kernel_rfl) (by kernel_rfl) (fun _ _ _ _ h => h) (by kernel_rfl) rfl (by rfl) (fun W' hW => by
        have z := (((Ext.refl wO).drew).trans hW).cell c0
        go_simp) ?_
      simp only [List.setIfInBounds_toArray, List.set_cons_zero, List.set_cons_succ]
      refine wpX_vt 4 (.slice (some ⟨be, oe, none⟩) nl c3) rfl rfl (by kernel_rfl) (by kernel_rfl) (by kernel_rfl) (fun _ _ _ _ h => h) (by kernel_rfl) rfl (by rfl) (fun W' hW => by
        skip
        go_simp) ?_
      simp only [List.setIfInBounds_toArray, List.set_cons_zero, List.set_cons_succ]
      refine wpX_vt 5 (.slice (some ⟨be, oe, none⟩) nl c3) rfl rfl (by kernel_rfl) (by kernel_rfl) (by kernel_rfl) (fun _ _ _ _ h => h) (by kernel_rfl) rfl (by rfl) (fun W' hW => by
        skip
        go_simp) ?_
      simp only [List.setIfInBounds_toArray, List.set_cons_zero, List.set_cons_succ]
      refine wpX_vt 6 (.int .i64 (nl : Int)) rfl rfl (by kernel_rfl) (by kernel_rfl) (by kernel_rfl) (fun _ _ _ _ h => h) (by kernel_rfl) rfl (by rfl) (fun W' hW => by
        skip
        go_simp) ?_
      simp only [List.setIfInBounds_toArray, List.set_cons_zero, List.set_cons_succ]
      refine wpX_vt 7 (.int .i64 (j : Int)) rfl rfl (by kernel_rfl) (by kernel_rfl) (by kernel_rfl) (fun _ _ _ _ h => h) (by kernel_rfl) rfl (by rfl) (fun W' hW => by
        skip
        go_simp) ?_
      simp only [List.setIfInBounds_toArray, List.set_cons_zero, List.set_cons_succ]
      refine wpX_vt 8 (.pointer (some ⟨be, oe + j * 3, none⟩)) rfl rfl (by kernel_rfl) (by kernel_rfl) (by kernel_rfl) (fun _ _ _ _ h => h) (by kernel_rfl) rfl (by rfl) (fun W' hW => by
        skip
        go_simp) ?_
      simp only [List.setIfInBounds_toArray, List.set_cons_zero, List.set_cons_succ]
      refine wpX_vt 9 (.pointer (some ⟨be, oe + j * 3, none⟩)) rfl rfl (by kernel_rfl) (by kernel_rfl) (by kernel_rfl) (fun _ _ _ _ h => h) (by kernel_rfl) rfl (by rfl) (fun W' hW => by
        skip
        go_simp) ?_
      simp only [List.setIfInBounds_toArray, List.set_cons_zero, List.set_cons_succ]
      refine wpX_vt 10 (.int .i64 pd) rfl rfl (by kernel_rfl) (by kernel_rfl) (by kernel_rfl) (fun _ _ _ _ h => h) (by kernel_rfl) rfl (by rfl) (fun W' hW => by
        have z := (((Ext.refl wO).drew).trans hW).cell hce
        go_simp) ?_
      simp only [List.setIfInBounds_toArray, List.set_cons_zero, List.set_cons_succ]
      refine wpX_vt 11 (.int .i64 (pd + 1)) rfl rfl (by kernel_rfl) (by kernel_rfl) (by kernel_rfl) (fun _ _ _ _ h => h) (by kernel_rfl) rfl (by rfl) (fun W' hW => by
        skip
        go_simp) ?_
      simp only [List.setIfInBounds_toArray, List.set_cons_zero, List.set_cons_succ]
      refine wpX_vt 12 (.int .i64 dm) rfl rfl (by kernel_rfl) (by kernel_rfl) (by kernel_rfl) (fun _ _ _ _ h => h) (by kernel_rfl) rfl (by rfl) (fun W' hW => by
        skip
        go_simp) ?_
      simp only [List.setIfInBounds_toArray, List.set_cons_zero, List.set_cons_succ]
      refine wpX_vt 15 (.slice (some ⟨bp, op, none⟩) n1 c) rfl rfl (by kernel_rfl) (by kernel_rfl) (by kernel_rfl) (fun _ _ _ _ h => h) (by kernel_rfl) rfl (by rfl) (fun W' hW => by
        skip
        go_simp) ?_
      simp only [List.setIfInBounds_toArray, List.set_cons_zero, List.set_cons_succ]
      refine wpX_vt 16 (.int .i64 (k : Int)) rfl rfl (by kernel_rfl) (by kernel_rfl) (by kernel_rfl) (fun _ _ _ _ h => h) (by kernel_rfl) rfl (by rfl) (fun W' hW => by
        skip
        go_simp) ?_
      simp only [List.setIfInBounds_toArray, List.set_cons_zero, List.set_cons_succ]
      refine wpX_vt 17 (.int .i64 (k1 : Int)) rfl rfl (by kernel_rfl) (by kernel_rfl) (by kernel_rfl) (fun _ _ _ _ h => h) (by kernel_rfl) rfl (by rfl) (fun W' hW => by
        skip
        go_simp) ?_
      simp only [List.setIfInBounds_toArray, List.set_cons_zero, List.set_cons_succ]
      refine wpX_vt 18 (.pointer (some ⟨bp, op + k1, none⟩)) rfl rfl (by kernel_rfl) (by kernel_rfl) (by kernel_rfl) (fun _ _ _ _ h => h) (by kernel_rfl) rfl (by rfl) (fun W' hW => by
        skip
        go_simp) ?_
      simp only [List.setIfInBounds_toArray, List.set_cons_zero, List.set_cons_succ]
      refine wpX_vt 19 (.int .i64 q1) rfl rfl (by kernel_rfl) (by kernel_rfl) (by kernel_rfl) (fun _ _ _ _ h => h) (by kernel_rfl) rfl (by rfl) (fun W' hW => by
        have z := (((Ext.refl wO).drew).trans hW).cell c1
        go_simp) ?_
      simp only [List.setIfInBounds_toArray, List.set_cons_zero, List.set_cons_succ]
      refine wpX_c 13 14 #[.int .i64 q0, .int .i64 dm] rfl rfl (by kernel_rfl) rfl rfl (fun W => by go_simp) ?_
      intro Wa hWa
      have hXa := ((Ext.refl wO).drew).trans hWa
      refine (Mod_any q0 dm Wa (by omega) (by omega)).mono ?_
      rintro en wM ⟨rfl, rfl⟩
      rw [HM0.out]
      refine ⟨_, rfl, Ext.refl _, ?_⟩
      simp only [List.setIfInBounds_toArray, List.set_cons_zero, List.set_cons_succ]
      refine wpX_vt 14 (.int .i64 dp) rfl rfl (by kernel_rfl) (by kernel_rfl) (by kernel_rfl) (fun _ _ _ _ h => h) (by kernel_rfl) rfl (by rfl) (fun W' hW => by
        skip
        go_simp) ?_
      simp only [List.setIfInBounds_toArray, List.set_cons_zero, List.set_cons_succ]
      refine wpX_c 20 14 #[.int .i64 q1, .int .i64 5] rfl rfl (by kernel_rfl) rfl rfl (fun W => by go_simp) ?_
      intro Wb hWb
      have hXb := hXa.trans hWb
      refine (Mod_any q1 5 Wb (by omega) (by omega)).mono ?_
      rintro en wM ⟨rfl, rfl⟩
      rw [HM1.out]
      refine ⟨_, rfl, Ext.refl _, ?_⟩
      simp only [List.setIfInBounds_toArray, List.set_cons_zero, List.set_cons_succ]
      refine wpX_vt 21 (.int .i64 tg) rfl rfl (by kernel_rfl) (by kernel_rfl) (by kernel_rfl) (fun _ _ _ _ h => h) (by kernel_rfl) rfl (by rfl) (fun W' hW => by
        skip
        go_simp) ?_
      simp only [List.setIfInBounds_toArray, List.set_cons_zero, List.set_cons_succ]
      refine wpX_vt 22 (.agg #[.int .i64 dp, .int .i64 tg, .slice none 0 0]) rfl rfl (by kernel_rfl) (by kernel_rfl) (by kernel_rfl) (fun _ _ _ _ h => h) (by kernel_rfl) rfl (by rfl) (fun W' hW => by
        skip
        go_simp) ?_
      simp only [List.setIfInBounds_toArray, List.set_cons_zero, List.set_cons_succ]
      refine wpX_end rfl fun W7 hW7 => Land.mk fun g5 hg5 hz => ?_
      refine tail_seq 24 rfl (by kernel_rfl) ?_
      simp only [List.drop_succ_cons, List.drop_zero, List.setIfInBounds_toArray, List.set_cons_zero, List.set_cons_succ]
      have hX7 : Ext wO W7 := hXb.trans hW7
      have hstr := run_storeAt_blk (P := Try.prog) W7 g5 26 26 _ #[.int .i64 dp, .int .i64 tg, .slice none 0 0] hz en_size rfl (by simp [Value.oneCell'])
      have hG5 := setRow_heap W7 g5 _ #[.int .i64 dp, .int .i64 tg, .slice none 0 0] _ _ hz
      have hX8 : Ext wO (W7.setRow g5 #[.int .i64 dp, .int .i64 tg, .slice none 0 0]) := hX7.grown (gsetRow W7 g5 #[.int .i64 dp, .int .i64 tg, .slice none 0 0]) (fun k e => by cases e; exact hg5)
      go_wp2_with first | refine wpList_store_run rfl 26 (.tmp 5) (.tmp 43) rfl _ _ _ rfl rfl hstr ?_
      refine NoPanic.normal ?_
      clear hstr hz hX7 hW7 c0 c1 hce hWa hXa hWb hXb hw1 hi0 hi1 hwj hij hwp hwa hwb
      generalize W7.setRow g5 #[.int .i64 dp, .int .i64 tg, .slice none 0 0] = wB at *
      obtain ⟨m4, hm4, hm4r⟩ : ∃ m, q2 % 4 = m ∧ 0 ≤ m ∧ m < 4 := ⟨_, rfl, Int.emod_nonneg _ (by omega), Int.emod_lt_of_pos _ (by omega)⟩
      have HM4 := Lib.hid hm4
      clear hm4 hm0r hm1r hdm
      go_wp2_with fail
      go_loopw [6] (fun i wr => ∃ (m : Nat) (ats : List Att) (y : Value), i = .int .i64 (m : Int) ∧ m ≤ 3 ∧ Hid (AG m ats) ∧ wr.heap[g5]? = some (.cells #[.int .i64 dp, .int .i64 tg, y] 26 (0, 0)) ∧ OwnR attCells 4 40 wO.heap.size wr y ats ∧ Ext wO wr) (fun i _ => 4 - (intOf i).toNat)
      case atStart => exact ⟨0, [], _, rfl, by omega, Lib.hid AG.nil, hG5, OwnR.nil _, hX8⟩
      case round =>
        clear hG5 hX8
        obtain ⟨m, ats, y, rfl, hm3, HAG, hG5, hrow, hXi⟩ := hrel
        obtain ⟨wi, rfl⟩ : ∃ W : World, W = wr := ⟨_, rfl⟩
        obtain ⟨AY, cY, hyv, _⟩ := id hrow.inR
        obtain ⟨ny, hny⟩ : ∃ n, n = ats.length := ⟨_, rfl⟩
        rw [← hny] at hyv
        have hnm : ats.length = m := HAG.out.len
        subst hyv
        clear hny
        have c2 := H2.out wi (hX.trans hXi)
        go_wp2_with fail
        refine (Mod_any q2 4 wi (by omega) (by omega)).mono ?_
        rintro en wM ⟨rfl, rfl⟩
        rw [HM4.out]
        clear c2
        by_cases hmm : (m : Int) < m4
        · have dmm : decide ((m : Int) < m4) = true := by simpa using hmm
          have hm2 : m ≤ 2 := by omega
          have c3 := H3.out wi (hX.trans hXi)
          obtain ⟨sw, hsw⟩ : ∃ s, IntKind.i64.wrap (q3 + (m : Int)) = s := ⟨_, rfl⟩
          obtain ⟨f0, hf0, hf0r⟩ : ∃ m, sw % 4 = m ∧ 0 ≤ m ∧ m < 4 := ⟨_, rfl, Int.emod_nonneg _ (by omega), Int.emod_lt_of_pos _ (by omega)⟩
          obtain ⟨fm, hfm⟩ : ∃ f, f = 1 + f0 := ⟨_, rfl⟩
          have hwf : IntKind.i64.wrap (1 + f0) = fm := by rw [IntKind.wrap_i64]; omega
          obtain ⟨nm, hnm'⟩ : ∃ f, f = (m : Int) + 1 := ⟨_, rfl⟩
          have hwn : IntKind.i64.wrap (1 + (m : Int)) = nm := by rw [IntKind.wrap_i64]; omega
          have hfmr : 1 ≤ fm ∧ fm ≤ 4 := by omega
          have hnmr : 1 ≤ nm ∧ nm ≤ 63 := by omega
          have HNM := Lib.hid hnm'
          have HF0 := Lib.hid hf0
          clear hfm hnm' hf0 hmm
          go_wp2_with fail
          refine (Mod_any sw 4 wi (by omega) (by omega)).mono ?_
          rintro en wM ⟨rfl, rfl⟩
          rw [HF0.out]
          clear c3 hsw
          obtain ⟨hst, hGa, hXG⟩ := box_new (P := Try.prog) wi 40 #[.int .i64 0, .int .i64 0, .int .i64 0, .string ByteArray.empty] #[.int .i64 nm, .int .i64 fm, .int .i64 0, .string ByteArray.empty] at_size rfl (by simp [Value.oneCell'])
          go_upto_region 10 with first | refine wpList_store_run rfl 40 (.tmp 7) (.tmp 65) rfl _ _ _ rfl rfl hst ?_
          obtain ⟨g7, hg7⟩ : ∃ g, g = wi.heap.size := ⟨_, rfl⟩
          have hg7l : wi.heap.size ≤ g7 := by omega
          rw [← hg7] at hGa hXG ⊢
          generalize (wi.alloc (.cells #[.int .i64 0, .int .i64 0, .int .i64 0, .string ByteArray.empty] 40)).setRow g7 #[.int .i64 nm, .int .i64 fm, .int .i64 0, .string ByteArray.empty] = wg at *
          try dsimp only [Act.put]
          obtain ⟨a0, a1, a2, a3⟩ := blkR hGa
          have f2 := blk_free hGa 2
          have f3 := blk_free hGa 3
          have hltg := heap_lt hGa
          clear hst hg7 hwf hwn dmm
          have c4 := H4.out wg ((hX.trans hXi).trans hXG)
          by_cases e1 : fm = 1
          case pos =>
            have t1 : decide (fm = 1) = true := by simp; omega
            have t2 : decide (fm = 2) = false := by simp; omega
            have t3 : decide (fm = 3) = false := by simp; omega
            have t1b : (fm == 1) = true := by simp; omega
            have t2b : (fm == 2) = false := by simp; omega
            have t3b : (fm == 3) = false := by simp; omega
            go_wp2_with fail
            obtain ⟨vv, hvv, hvr⟩ : ∃ m, q4 % 1099511627776 = m ∧ 0 ≤ m ∧ m < 1099511627776 := ⟨_, rfl, Int.emod_nonneg _ (by omega), Int.emod_lt_of_pos _ (by omega)⟩
            refine (Mod_any q4 1099511627776 wg (by omega) (by omega)).mono ?_
            rintro en wM ⟨rfl, rfl⟩
            rw [hvv]
            clear hvv
            have HOKA : Hid (okAtt ⟨nm, fm, vv, ByteArray.empty⟩ ∧ (Att.mk nm fm vv ByteArray.empty).I) := Lib.hid ⟨⟨hnmr, .inl ⟨e1, by simp only; omega, by simp only; omega, rfl⟩⟩, ⟨by unfold I64; simp only; omega, by unfold I64; simp only; omega, by simp only; decide⟩⟩
            clear e1
            have hGb := blk_set hGa 2 (.int .i64 vv)
            simp only [List.setIfInBounds_toArray, List.set_cons_succ, List.set_cons_zero] at hGb
            have hXb := hXG.setCell (p := ⟨g7, 2, none⟩) hg7l (.int .i64 vv)
            go_upto_region 18 with fail
            clear a0 a1 a2 a3 f2 f3 hltg hGa hXG c4
            generalize wg.setCell ⟨g7, 2, none⟩ (.int .i64 vv) = wb at *
            obtain ⟨att, hatt⟩ : ∃ z : Att, z = ⟨nm, fm, vv, ByteArray.empty⟩ := ⟨_, rfl⟩
            have HAN : Hid (AG (m + 1) (ats ++ [att])) := Lib.hid (HAG.out.push (by rw [hatt]; exact HOKA.out.1) (by rw [hatt]; exact HOKA.out.2) (by rw [hatt]; exact HNM.out))
            have hldt := run_loadAt_blk (P := Try.prog) wb g7 40 40 _ (0, 0) _ hGb Try.underlying40 rfl at_size
            have hA5 := (Ext.refl wb).alloc (.cells #[.int .i64 nm, .int .i64 fm, .int .i64 vv, .string ByteArray.empty] 40)
            have hin5 : InR attCells (wb.alloc (.cells #[.int .i64 nm, .int .i64 fm, .int .i64 vv, .string ByteArray.empty] 40)) (.slice (some ⟨wb.heap.size, 0, none⟩) 1 1) [att] := by rw [hatt]; exact (OwnR_one (f := attCells) wb ⟨nm, fm, vv, ByteArray.empty⟩ rfl 40).inR
            have hone : ∀ z ∈ [att], ∀ u ∈ attCells z, u.oneCell' = true := fun z hz u hu => by
              simp only [List.mem_singleton] at hz
              subst hz
              simp only [attCells, List.mem_cons, List.not_mem_nil, or_false] at hu
              rcases hu with rfl | rfl | rfl | rfl <;> rfl
            have hG5b := hXb.heap hG5
            have hrowa := (hrow.ext hXb).ext hA5
            have hG5a := hA5.heap hG5b
            have hXa := (hXi.trans hXb).trans hA5
            have hsza := hXa.size
            obtain ⟨r0, r1, r2⟩ := blk3 hG5b
            clear hatt hGb hXb
            go_wp2_with first | refine wpList_load_run rfl 40 (.tmp 7) rfl _ _ rfl hldt ?_ | refine wpList_rowOne elem_at rfl (.tmp 100) rfl #[.int .i64 nm, .int .i64 fm, .int .i64 vv, .string ByteArray.empty] rfl rfl (by omega) ?_ | (at_builtin; go_must (refine wpList_appendR elem_at rfl (.tmp 99) (.tmp 101) rfl wO.heap.size _ ats rfl hrowa _ [att] rfl hin5 (fun _ _ => rfl) hone (by simp only [List.length_cons, List.length_nil]; omega) (by omega) hsza (Hold.out ?_)))
            refine Hold.mk fun v9 w9 ho9 hg9 => ?_
            have hG59 := blk_grown hG5a hg9.grown (fun e => hrowa.ne_blk hG5a (by decide) e.symm)
            have hX9 : Ext wO w9 := hg9.ext hXa hrowa.ge
            clear hg9 hrowa hG5a hXa hsza hG5b hldt hA5 hin5 hone r0 r1 r2
            obtain ⟨A9, c9, hv9, _⟩ := id ho9.inR
            obtain ⟨n9, hn9⟩ : ∃ m, m = (ats ++ [att]).length := ⟨_, rfl⟩
            rw [← hn9] at hv9
            subst hv9
            clear hn9
            have hG5z := blk_set hG59 2 (.slice A9 n9 c9)
            simp only [List.setIfInBounds_toArray, List.set_cons_succ, List.set_cons_zero] at hG5z
            have hownz := ho9.kept (gset w9 ⟨g5, 2, none⟩ (.slice A9 n9 c9)) (.inr (ho9.ne_blk hG59 (by decide)))
            have hXz := hX9.setCell (p := ⟨g5, 2, none⟩) hg5 (.slice A9 n9 c9)
            obtain ⟨r0, r1, r2⟩ := blk3 hG59
            have f2 := blk_free hG59 2
            have hlt9 := heap_lt hG59
            clear ho9 hX9
            go_wp2_with fail
            go_roundw
            case rel => exact ⟨m + 1, ats ++ [att], _, by first | (with_reducible rfl) | go_num, by omega, HAN, hG5z, hownz, hXz⟩
            case measure => simp [intOf]; omega
          by_cases e2 : fm = 2
          case pos =>
            have HOKA : Hid (okAtt ⟨nm, fm, q4, ByteArray.empty⟩ ∧ (Att.mk nm fm q4 ByteArray.empty).I) := Lib.hid ⟨⟨hnmr, .inr (.inl ⟨e2, rfl⟩)⟩, ⟨hq4, by unfold I64; simp only; omega, by simp only; decide⟩⟩
            have t1 : decide (fm = 1) = false := by simp; omega
            have t2 : decide (fm = 2) = true := by simp; omega
            have t3 : decide (fm = 3) = false := by simp; omega
            have t1b : (fm == 1) = false := by simp; omega
            have t2b : (fm == 2) = true := by simp; omega
            have t3b : (fm == 3) = false := by simp; omega
            clear e1 e2
            have hGb := blk_set hGa 2 (.int .i64 q4)
            simp only [List.setIfInBounds_toArray, List.set_cons_succ, List.set_cons_zero] at hGb
            have hXb := hXG.setCell (p := ⟨g7, 2, none⟩) hg7l (.int .i64 q4)
            go_upto_region 18 with fail
            clear a0 a1 a2 a3 f2 f3 hltg hGa hXG c4
            generalize wg.setCell ⟨g7, 2, none⟩ (.int .i64 q4) = wb at *
            obtain ⟨att, hatt⟩ : ∃ z : Att, z = ⟨nm, fm, q4, ByteArray.empty⟩ := ⟨_, rfl⟩
            have HAN : Hid (AG (m + 1) (ats ++ [att])) := Lib.hid (HAG.out.push (by rw [hatt]; exact HOKA.out.1) (by rw [hatt]; exact HOKA.out.2) (by rw [hatt]; exact HNM.out))
            have hldt := run_loadAt_blk (P := Try.prog) wb g7 40 40 _ (0, 0) _ hGb Try.underlying40 rfl at_size
            have hA5 := (Ext.refl wb).alloc (.cells #[.int .i64 nm, .int .i64 fm, .int .i64 q4, .string ByteArray.empty] 40)
            have hin5 : InR attCells (wb.alloc (.cells #[.int .i64 nm, .int .i64 fm, .int .i64 q4, .string ByteArray.empty] 40)) (.slice (some ⟨wb.heap.size, 0, none⟩) 1 1) [att] := by rw [hatt]; exact (OwnR_one (f := attCells) wb ⟨nm, fm, q4, ByteArray.empty⟩ rfl 40).inR
            have hone : ∀ z ∈ [att], ∀ u ∈ attCells z, u.oneCell' = true := fun z hz u hu => by
              simp only [List.mem_singleton] at hz
              subst hz
              simp only [attCells, List.mem_cons, List.not_mem_nil, or_false] at hu
              rcases hu with rfl | rfl | rfl | rfl <;> rfl
            have hG5b := hXb.heap hG5
            have hrowa := (hrow.ext hXb).ext hA5
            have hG5a := hA5.heap hG5b
            have hXa := (hXi.trans hXb).trans hA5
            have hsza := hXa.size
            obtain ⟨r0, r1, r2⟩ := blk3 hG5b
            clear hatt hGb hXb
            go_wp2_with first | refine wpList_load_run rfl 40 (.tmp 7) rfl _ _ rfl hldt ?_ | refine wpList_rowOne elem_at rfl (.tmp 100) rfl #[.int .i64 nm, .int .i64 fm, .int .i64 q4, .string ByteArray.empty] rfl rfl (by omega) ?_ | (at_builtin; go_must (refine wpList_appendR elem_at rfl (.tmp 99) (.tmp 101) rfl wO.heap.size _ ats rfl hrowa _ [att] rfl hin5 (fun _ _ => rfl) hone (by simp only [List.length_cons, List.length_nil]; omega) (by omega) hsza (Hold.out ?_)))
            refine Hold.mk fun v9 w9 ho9 hg9 => ?_
            have hG59 := blk_grown hG5a hg9.grown (fun e => hrowa.ne_blk hG5a (by decide) e.symm)
            have hX9 : Ext wO w9 := hg9.ext hXa hrowa.ge
            clear hg9 hrowa hG5a hXa hsza hG5b hldt hA5 hin5 hone r0 r1 r2
            obtain ⟨A9, c9, hv9, _⟩ := id ho9.inR
            obtain ⟨n9, hn9⟩ : ∃ m, m = (ats ++ [att]).length := ⟨_, rfl⟩
            rw [← hn9] at hv9
            subst hv9
            clear hn9
            have hG5z := blk_set hG59 2 (.slice A9 n9 c9)
            simp only [List.setIfInBounds_toArray, List.set_cons_succ, List.set_cons_zero] at hG5z
            have hownz := ho9.kept (gset w9 ⟨g5, 2, none⟩ (.slice A9 n9 c9)) (.inr (ho9.ne_blk hG59 (by decide)))
            have hXz := hX9.setCell (p := ⟨g5, 2, none⟩) hg5 (.slice A9 n9 c9)
            obtain ⟨r0, r1, r2⟩ := blk3 hG59
            have f2 := blk_free hG59 2
            have hlt9 := heap_lt hG59
            clear ho9 hX9
            go_wp2_with fail
            go_roundw
            case rel => exact ⟨m + 1, ats ++ [att], _, by first | (with_reducible rfl) | go_num, by omega, HAN, hG5z, hownz, hXz⟩
            case measure => simp [intOf]; omega
          by_cases e3 : fm = 3
          case pos =>
            have t1 : decide (fm = 1) = false := by simp; omega
            have t2 : decide (fm = 2) = false := by simp; omega
            have t3 : decide (fm = 3) = true := by simp; omega
            have t1b : (fm == 1) = false := by simp; omega
            have t2b : (fm == 2) = false := by simp; omega
            have t3b : (fm == 3) = true := by simp; omega
            obtain ⟨m5, hm5, hm5r⟩ : ∃ m, q4 % 4 = m ∧ 0 ≤ m ∧ m < 4 := ⟨_, rfl, Int.emod_nonneg _ (by omega), Int.emod_lt_of_pos _ (by omega)⟩
            obtain ⟨i5, rfl⟩ : ∃ i : Nat, m5 = (i : Int) := ⟨m5.toNat, by omega⟩
            have hi5 : i5 < 4 := by omega
            have c4b := fun o => ((Ext.refl wg).alloc o).cell c4
            go_wp2_with fail
            refine (Mod_any q4 4 _ (by omega) (by omega)).mono ?_
            rintro en wM ⟨rfl, hwM⟩
            rw [hm5]
            obtain ⟨SC, hSB, hSC⟩ : ∃ C, wM.heap[wg.heap.size]? = some (.cells C 9 (0, 0)) ∧ ∀ i, i < 4 → ∃ tx, C[i]? = some (.string tx) ∧ tx.size ≤ 40 := by
              subst hwM
              refine ⟨_, heap_alloc_new wg _, fun i hi => ?_⟩
              match i, hi with
              | 0, _ => exact ⟨_, rfl, by decide⟩
              | 1, _ => exact ⟨_, rfl, by decide⟩
              | 2, _ => exact ⟨_, rfl, by decide⟩
              | 3, _ => exact ⟨_, rfl, by decide⟩
            obtain ⟨tx, htx, htl⟩ := hSC i5 hi5
            have hXM : Ext wg wM := by subst hwM; exact (Ext.refl wg).alloc _
            have hsc := blk_at hSB i5 _ htx
            have hii5 : 0 ≤ (i5 : Int) ∧ (i5 : Int) < 4 := by omega
            have hGa := hXM.heap hGa
            have hXG := hXG.trans hXM
            obtain ⟨gs, hgs⟩ : ∃ g, g = wg.heap.size := ⟨_, rfl⟩
            rw [← hgs] at hsc ⊢
            clear hwM hSB hSC htx hgs c4b hm5 a0 a1 a2 a3 f2 f3 hltg hXM
            obtain ⟨a0, a1, a2, a3⟩ := blkR hGa
            have f2 := blk_free hGa 2
            have f3 := blk_free hGa 3
            have hltg := heap_lt hGa
            have HOKA : Hid (okAtt ⟨nm, fm, 0, tx⟩ ∧ (Att.mk nm fm 0 tx).I) := Lib.hid ⟨⟨hnmr, .inr (.inr (.inl ⟨e3, rfl, htl⟩))⟩, ⟨by unfold I64; simp only; omega, by unfold I64; simp only; omega, by simp only; omega⟩⟩
            clear e1 e2 e3
            have hGb := blk_set hGa 3 (.string tx)
            simp only [List.setIfInBounds_toArray, List.set_cons_succ, List.set_cons_zero] at hGb
            have hXb := hXG.setCell (p := ⟨g7, 3, none⟩) hg7l (.string tx)
            go_upto_region 18 with fail
            clear a0 a1 a2 a3 f2 f3 hltg hGa hXG c4
            generalize wM.setCell ⟨g7, 3, none⟩ (.string tx) = wb at *
            obtain ⟨att, hatt⟩ : ∃ z : Att, z = ⟨nm, fm, 0, tx⟩ := ⟨_, rfl⟩
            have HAN : Hid (AG (m + 1) (ats ++ [att])) := Lib.hid (HAG.out.push (by rw [hatt]; exact HOKA.out.1) (by rw [hatt]; exact HOKA.out.2) (by rw [hatt]; exact HNM.out))
            have hldt := run_loadAt_blk (P := Try.prog) wb g7 40 40 _ (0, 0) _ hGb Try.underlying40 rfl at_size
            have hA5 := (Ext.refl wb).alloc (.cells #[.int .i64 nm, .int .i64 fm, .int .i64 0, .string tx] 40)
            have hin5 : InR attCells (wb.alloc (.cells #[.int .i64 nm, .int .i64 fm, .int .i64 0, .string tx] 40)) (.slice (some ⟨wb.heap.size, 0, none⟩) 1 1) [att] := by rw [hatt]; exact (OwnR_one (f := attCells) wb ⟨nm, fm, 0, tx⟩ rfl 40).inR
            have hone : ∀ z ∈ [att], ∀ u ∈ attCells z, u.oneCell' = true := fun z hz u hu => by
              simp only [List.mem_singleton] at hz
              subst hz
              simp only [attCells, List.mem_cons, List.not_mem_nil, or_false] at hu
              rcases hu with rfl | rfl | rfl | rfl <;> rfl
            have hG5b := hXb.heap hG5
            have hrowa := (hrow.ext hXb).ext hA5
            have hG5a := hA5.heap hG5b
            have hXa := (hXi.trans hXb).trans hA5
            have hsza := hXa.size
            obtain ⟨r0, r1, r2⟩ := blk3 hG5b
            clear hatt hGb hXb
            go_wp2_with first | refine wpList_load_run rfl 40 (.tmp 7) rfl _ _ rfl hldt ?_ | refine wpList_rowOne elem_at rfl (.tmp 100) rfl #[.int .i64 nm, .int .i64 fm, .int .i64 0, .string tx] rfl rfl (by omega) ?_ | (at_builtin; go_must (refine wpList_appendR elem_at rfl (.tmp 99) (.tmp 101) rfl wO.heap.size _ ats rfl hrowa _ [att] rfl hin5 (fun _ _ => rfl) hone (by simp only [List.length_cons, List.length_nil]; omega) (by omega) hsza (Hold.out ?_)))
            refine Hold.mk fun v9 w9 ho9 hg9 => ?_
            have hG59 := blk_grown hG5a hg9.grown (fun e => hrowa.ne_blk hG5a (by decide) e.symm)
            have hX9 : Ext wO w9 := hg9.ext hXa hrowa.ge
            clear hg9 hrowa hG5a hXa hsza hG5b hldt hA5 hin5 hone r0 r1 r2
            obtain ⟨A9, c9, hv9, _⟩ := id ho9.inR
            obtain ⟨n9, hn9⟩ : ∃ m, m = (ats ++ [att]).length := ⟨_, rfl⟩
            rw [← hn9] at hv9
            subst hv9
            clear hn9
            have hG5z := blk_set hG59 2 (.slice A9 n9 c9)
            simp only [List.setIfInBounds_toArray, List.set_cons_succ, List.set_cons_zero] at hG5z
            have hownz := ho9.kept (gset w9 ⟨g5, 2, none⟩ (.slice A9 n9 c9)) (.inr (ho9.ne_blk hG59 (by decide)))
            have hXz := hX9.setCell (p := ⟨g5, 2, none⟩) hg5 (.slice A9 n9 c9)
            obtain ⟨r0, r1, r2⟩ := blk3 hG59
            have f2 := blk_free hG59 2
            have hlt9 := heap_lt hG59
            clear ho9 hX9
            go_wp2_with fail
            go_roundw
            case rel => exact ⟨m + 1, ats ++ [att], _, by first | (with_reducible rfl) | go_num, by omega, HAN, hG5z, hownz, hXz⟩
            case measure => simp [intOf]; omega
          have HOKA : Hid (okAtt ⟨nm, fm, 1, ByteArray.empty⟩ ∧ (Att.mk nm fm 1 ByteArray.empty).I) := Lib.hid ⟨⟨hnmr, .inr (.inr (.inr ⟨by simp only; omega, rfl, rfl⟩))⟩, ⟨by unfold I64; simp only; omega, by unfold I64; simp only; omega, by simp only; decide⟩⟩
          have t1 : decide (fm = 1) = false := by simp; omega
          have t2 : decide (fm = 2) = false := by simp; omega
          have t3 : decide (fm = 3) = false := by simp; omega
          have t1b : (fm == 1) = false := by simp; omega
          have t2b : (fm == 2) = false := by simp; omega
          have t3b : (fm == 3) = false := by simp; omega
          clear e1 e2 e3
          have hGb := blk_set hGa 2 (.int .i64 1)
          simp only [List.setIfInBounds_toArray, List.set_cons_succ, List.set_cons_zero] at hGb
          have hXb := hXG.setCell (p := ⟨g7, 2, none⟩) hg7l (.int .i64 1)
          go_upto_region 18 with fail
          clear a0 a1 a2 a3 f2 f3 hltg hGa hXG c4
          generalize wg.setCell ⟨g7, 2, none⟩ (.int .i64 1) = wb at *
          obtain ⟨att, hatt⟩ : ∃ z : Att, z = ⟨nm, fm, 1, ByteArray.empty⟩ := ⟨_, rfl⟩
          have HAN : Hid (AG (m + 1) (ats ++ [att])) := Lib.hid (HAG.out.push (by rw [hatt]; exact HOKA.out.1) (by rw [hatt]; exact HOKA.out.2) (by rw [hatt]; exact HNM.out))
          have hldt := run_loadAt_blk (P := Try.prog) wb g7 40 40 _ (0, 0) _ hGb Try.underlying40 rfl at_size
          have hA5 := (Ext.refl wb).alloc (.cells #[.int .i64 nm, .int .i64 fm, .int .i64 1, .string ByteArray.empty] 40)
          have hin5 : InR attCells (wb.alloc (.cells #[.int .i64 nm, .int .i64 fm, .int .i64 1, .string ByteArray.empty] 40)) (.slice (some ⟨wb.heap.size, 0, none⟩) 1 1) [att] := by rw [hatt]; exact (OwnR_one (f := attCells) wb ⟨nm, fm, 1, ByteArray.empty⟩ rfl 40).inR
          have hone : ∀ z ∈ [att], ∀ u ∈ attCells z, u.oneCell' = true := fun z hz u hu => by
            simp only [List.mem_singleton] at hz
            subst hz
            simp only [attCells, List.mem_cons, List.not_mem_nil, or_false] at hu
            rcases hu with rfl | rfl | rfl | rfl <;> rfl
          have hG5b := hXb.heap hG5
          have hrowa := (hrow.ext hXb).ext hA5
          have hG5a := hA5.heap hG5b
          have hXa := (hXi.trans hXb).trans hA5
          have hsza := hXa.size
          obtain ⟨r0, r1, r2⟩ := blk3 hG5b
          clear hatt hGb hXb
          go_wp2_with first | refine wpList_load_run rfl 40 (.tmp 7) rfl _ _ rfl hldt ?_ | refine wpList_rowOne elem_at rfl (.tmp 100) rfl #[.int .i64 nm, .int .i64 fm, .int .i64 1, .string ByteArray.empty] rfl rfl (by omega) ?_ | (at_builtin; go_must (refine wpList_appendR elem_at rfl (.tmp 99) (.tmp 101) rfl wO.heap.size _ ats rfl hrowa _ [att] rfl hin5 (fun _ _ => rfl) hone (by simp only [List.length_cons, List.length_nil]; omega) (by omega) hsza (Hold.out ?_)))
          refine Hold.mk fun v9 w9 ho9 hg9 => ?_
          have hG59 := blk_grown hG5a hg9.grown (fun e => hrowa.ne_blk hG5a (by decide) e.symm)
          have hX9 : Ext wO w9 := hg9.ext hXa hrowa.ge
          clear hg9 hrowa hG5a hXa hsza hG5b hldt hA5 hin5 hone r0 r1 r2
          obtain ⟨A9, c9, hv9, _⟩ := id ho9.inR
          obtain ⟨n9, hn9⟩ : ∃ m, m = (ats ++ [att]).length := ⟨_, rfl⟩
          rw [← hn9] at hv9
          subst hv9
          clear hn9
          have hG5z := blk_set hG59 2 (.slice A9 n9 c9)
          simp only [List.setIfInBounds_toArray, List.set_cons_succ, List.set_cons_zero] at hG5z
          have hownz := ho9.kept (gset w9 ⟨g5, 2, none⟩ (.slice A9 n9 c9)) (.inr (ho9.ne_blk hG59 (by decide)))
          have hXz := hX9.setCell (p := ⟨g5, 2, none⟩) hg5 (.slice A9 n9 c9)
          obtain ⟨r0, r1, r2⟩ := blk3 hG59
          have f2 := blk_free hG59 2
          have hlt9 := heap_lt hG59
          clear ho9 hX9
          go_wp2_with fail
          go_roundw
          case rel => exact ⟨m + 1, ats ++ [att], _, by first | (with_reducible rfl) | go_num, by omega, HAN, hG5z, hownz, hXz⟩
          case measure => simp [intOf]; omega
        · have dmm : decide ((m : Int) < m4) = false := by simpa using hmm
          have hldt := run_loadAt_blk (P := Try.prog) wi g5 26 26 _ (0, 0) _ hG5 Try.underlying26 rfl en_size
          obtain ⟨ent, hent⟩ : ∃ e : Ent, e = ⟨dp, tg, ats⟩ := ⟨_, rfl⟩
          obtain ⟨zt, hz1, hz2, hz3⟩ := hown.ext hXi
          have HZ1 := Lib.hid hz1
          have HZ3 := Lib.hid hz3
          have hzl : zt.length ≤ 40 := by
            have h1 : zt.length = l.length := by rw [← hz1]; simp
            rw [h1, ← HNL.out]; omega
          clear hz1 hz3
          have HTN : Hid (TG (l ++ [ent])) := Lib.hid (HT.out.push (by
            rw [hent]
            refine ⟨?_, by simp only; omega, HAG.out.atts hm3⟩
            have e : l.getLast? = some l[j] := by
              rw [List.getLast?_eq_getElem?]
              have : l.length - 1 = j := by have := HNL.out; have := HJ.out; omega
              rw [this, List.getElem?_eq_getElem hjl]
            rw [e]
            have := HPD.out
            simp only
            omega) (by
            rw [hent]
            exact ⟨by unfold I64; simp only; omega, by simp only; omega, fun a ha => (HAG.out.ok a ha).2⟩) (by rw [hent]; simp only; omega) (by rw [hent]; simp only; omega) (by rw [← HNL.out]; omega))
          have hA5 := (Ext.refl wi).alloc (.cells #[.int .i64 dp, .int .i64 tg, .slice AY ny cY] 26)
          have hin5 : InR entCells (wi.alloc (.cells #[.int .i64 dp, .int .i64 tg, .slice AY ny cY] 26)) (.slice (some ⟨wi.heap.size, 0, none⟩) 1 1) [(ent, .slice AY ny cY)] := by rw [hent]; exact (OwnR_one (f := entCells) wi ((⟨dp, tg, ats⟩ : Ent), .slice AY ny cY) rfl 26).inR
          have HAT : Hid (ent.attrs = ats) := Lib.hid (by rw [hent])
          have hone : ∀ z ∈ [(ent, (Value.slice AY ny cY))], ∀ u ∈ entCells z, u.oneCell' = true := fun z hz u hu => by
            simp only [List.mem_singleton] at hz
            subst hz
            simp only [entCells, List.mem_cons, List.not_mem_nil, or_false] at hu
            rcases hu with rfl | rfl | rfl <;> rfl
          have hza := hz2.ext hA5
          have hszd : w.heap.size ≤ (wi.alloc (.cells #[.int .i64 dp, .int .i64 tg, .slice AY ny cY] 26)).heap.size := Nat.le_trans (Nat.le_trans hX.size hXi.size) hA5.size
          have owna := (hrow.ext hA5).low hX.size
          have hXx := (hX.trans hXi).trans hA5
          clear hent hmm hG5 hrow hz2
          go_wp2_with first | refine wpList_load_run rfl 26 (.tmp 5) rfl _ _ rfl hldt ?_ | refine wpList_rowOne elem_en rfl (.tmp 105) rfl #[.int .i64 dp, .int .i64 tg, .slice AY ny cY] rfl rfl (by omega) ?_ | (at_builtin; go_must (refine wpList_appendR elem_en rfl (.tmp 104) (.tmp 106) rfl w.heap.size _ zt rfl hza _ [(ent, .slice AY ny cY)] rfl hin5 (fun _ _ => rfl) hone (by simp only [List.length_cons, List.length_nil]; omega) (by omega) hszd (Hold.out ?_)))
          refine Hold.mk fun v9 w9 ho9 hg9 => ?_
          have hT9 : EOwn w.heap.size w9 v9 (l ++ [ent]) := by
            refine ⟨zt ++ [(ent, .slice AY ny cY)], by rw [List.map_append, HZ1.out]; rfl, ho9, fun z hz => ?_⟩
            rcases List.mem_append.1 hz with hz | hz
            · have h1 := (HZ3.out z hz).ext hA5
              exact h1.kept hg9.grown (row_ne h1 hza (by decide))
            · simp only [List.mem_singleton] at hz
              subst hz
              have h1 : OwnR attCells 4 40 w.heap.size w9 (.slice AY ny cY) ats := owna.kept hg9.grown (row_ne owna hza (by decide))
              rw [← HAT.out] at h1
              exact h1
          have hX9 : Ext w w9 := hg9.ext hXx hza.ge
          have hkn : k + 5 + 5 = 5 * (l ++ [ent]).length := by
            have := HNL.out
            rw [List.length_append]
            simp only [List.length_cons, List.length_nil]
            omega
          clear ho9 hg9 hza owna hXx hA5 hin5 hone hszd hldt
          go_wp2_with fail
          go_roundw
          case rel => exact ⟨l ++ [ent], k + 5, by first | (with_reducible rfl) | go_num, hkn, by omega, HTN, hT9, hX9⟩
          case measure => simp [intOf]; omega
end Go.Proofs.Ytopanbcodfkedaa
