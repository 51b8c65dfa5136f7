/- The frame tables that the statements make from numbers: the walk. -/
import Derived.Test.YtokmbdeafjmcjaaCfP
namespace Go.Proofs.Ytokmbdeafjmcjaa
open Go.RowKit
set_option linter.unusedVariables false

theorem FOwn.low {base base' : Nat} {w : World} {v : Value} {l : List FTab} (h : FOwn base w v l) (hb : base' ≤ base) : FOwn base' w v l := by
  obtain ⟨zs, h1, h2, h3⟩ := h
  exact ⟨zs, h1, h2.low hb, fun z hz => ⟨(h3 z hz).1.low hb, (h3 z hz).2.low hb⟩⟩
section
variable {P : Program}
/-- an append of structs in a region that draws its order -/
theorem wpZ_appendR {α : Type} {f : α → List Value} {md : Region.Mode} {ops : Array Oper} {Q : Exit → Act → World → Prop} {LF : Array Bool} {T : Nat → Array Bool → Act → World → Prop} {t e : TypeId} {k bytes : Nat} (he : ElemN P t e k bytes) (i : Nat) {o : Oper} {d : Tmp} {n : Nat} {listed : Array Bool} {tm : Array Value} {df : List Deferred} {w : World}
    (s x : Operand) (base : Nat) (v : Value) (l : List α) (y : Value) (m : List α) (ho : ops[i]? = some o) (hd : o.dst = some d) (hr : Region.ready md ops listed = [i]) (hLF : LF.getD i false = true) (hg : Region.wanted o (yielded ops tm) = true)
    (hop : o.op = .call { callee := .builtin .append, args := #[s, x], argTypes := #[t, t] }) (hs : (Act.mk tm df).eval s = v) (hx : (Act.mk tm df).eval x = y)
    (hown : OwnR f k e base w v l) (hin : InR f w y m) (hm : ∀ a ∈ m, (f a).length = k) (h1 : ∀ a ∈ m, ∀ u ∈ f a, u.oneCell' = true) (h63 : l.length + m.length ≤ 1073741824) (hb : bytes ≤ 4096) (hbase : base ≤ w.heap.size)
    (h : ∀ v' W W', Ext w W → OwnR f k e base W' v' (l ++ m) → Grew W W' v v' → wpZ P md ops Q LF v.ownBlock T n (listed.setIfInBounds i true) ⟨tm.setIfInBounds d v', df⟩ W') : wpZ P md ops Q LF v.ownBlock T (n + 1) listed ⟨tm, df⟩ w := by
  refine wpZ_m i ho hd hr hLF hg fun W hW => ?_
  obtain ⟨v', W', hrun, h2, h3⟩ := exec_appendR he (w := W) s x hop base v l hs (hown.ext hW) y m hx (hin.ext hW) hm h1 h63 hb (Nat.le_trans hbase hW.size)
  exact ⟨v', W', hrun, h3.grown, h v' W W' hW h2 h3⟩
end
def TfPost (w : World) (en : Ending) (w' : World) : Prop := ∃ y l lo, en = .returned y ∧ FOwn w.heap.size w' y l ∧ FG lo l ∧ l.length ≤ 5 ∧ Ext w w'
set_option maxHeartbeats 40000000 in
set_option maxRecDepth 100000 in
theorem tables20_any (x : Value) (nums : List Int) (w : World) (hx : InI w x nums) (hnl : nums.length ≤ 9223372036854775807) : Calls Try.prog 14 #[x] w (TfPost w) := by
  obtain ⟨A, c, rfl, _, hr1⟩ := id hx
  obtain ⟨n1, hn1⟩ : ∃ n, n = nums.length := ⟨_, rfl⟩
  have HN1 := Lib.hid hn1
  rw [← hn1] at hnl ⊢
  clear hn1
  go_enter Try.func14, Try.ntmps14
  go_wp2_with fail
  go_loopw [3, 4, 5] (fun v li ki wr => ∃ (l : List FTab) (lo : Int) (k : Nat), ki = .int .i64 (k : Int) ∧ Hid (k ≤ 6 * l.length) ∧ li = .int .i64 lo ∧ (0 ≤ lo ∧ lo ≤ 4500) ∧ l.length ≤ 5 ∧ FOwn w.heap.size wr v l ∧ Hid (FG lo l) ∧ Ext w wr) (fun _ _ ki _ => n1 + 10 - (intOf ki).toNat)
  case atStart => exact ⟨[], 0, 0, rfl, Lib.hid (by simp), rfl, by omega, by simp, FOwn.nil _ _, Lib.hid FG.start, Ext.refl _⟩
  case round =>
    obtain ⟨l, lo, k, rfl, HK6L, rfl, hlo, hl5, hT, HG, hX⟩ := hrel
    obtain ⟨wo, rfl⟩ : ∃ wo : World, wo = wr := ⟨_, rfl⟩
    obtain ⟨AT, cT, hv⟩ := hT.in_.form
    obtain ⟨nl, hnl⟩ : ∃ n, n = l.length := ⟨_, rfl⟩
    rw [← hnl] at hv hl5
    subst hv
    have HNL := Lib.hid hnl
    have hk30 : k ≤ 30 := by have := HK6L.out; omega
    clear hnl
    have hw5 : IntKind.i64.wrap ((k : Int) + 5) = ((k + 5 : Nat) : Int) := by rw [IntKind.wrap_i64]; omega
    go_upto_region 4 with fail
    go_cut [19] (fun s wx => ∃ d : Bool, s = .bool d ∧ (d = true ↔ k + 5 < n1 ∧ nl < 5) ∧ wx = wo)
    case first =>
      by_cases h1 : k + 5 < n1
      · have d1 : decide (((k + 5 : Nat) : Int) < (n1 : Int)) = true := by simp; omega
        by_cases h2 : nl < 5
        · have d2 : decide ((nl : Int) < 5) = true := by simp; omega
          go_wp2_with fail
          go_meet
          exact ⟨true, rfl, by simp [h1, h2], rfl⟩
        · have d2 : decide ((nl : Int) < 5) = false := by simp; omega
          go_wp2_with fail
          go_meet
          exact ⟨false, rfl, by simp [h2], rfl⟩
      · have d1 : decide (((k + 5 : Nat) : Int) < (n1 : Int)) = false := by simp; omega
        go_wp2_with fail
        go_meet
        exact ⟨false, rfl, by simp [h1], rfl⟩
    obtain ⟨d, rfl, hd, hwe⟩ := hcut
    subst hwe
    cases d with
    | false =>
      clear hd
      go_wp2_with fail
      refine bodyPost_ret (by simp [results, Try.results14, go_sem]; rfl) rfl ?_
      exact ⟨_, l, lo, rfl, hT, HG.out, by rw [← HNL.out]; omega, hX⟩
    | true =>
      obtain ⟨wO, rfl⟩ : ∃ W : World, W = wc := ⟨_, rfl⟩
      obtain ⟨hk5, hl4⟩ := hd.1 rfl
      clear hd hw5
      obtain ⟨bp, op, rfl, hz0⟩ := hr1.at2 (k := k) (by rw [List.length_map, ← HN1.out]; omega)
      clear hz0
      have HPC : Hid (∀ i, i < n1 → ∃ q : Int, wO.cell? ⟨bp, op + i, none⟩ = some (.int .i64 q)) := Lib.hid fun i hi => by
        have hip : i < nums.length := by rw [← HN1.out]; exact hi
        obtain ⟨b', o', e', hc⟩ := (hr1.ext hX).at2 (k := i) (by simpa using hip)
        cases e'
        exact ⟨nums[i], by rw [hc]; simp [iv]⟩
      obtain ⟨k1, hk1⟩ : ∃ k1, k1 = k + 1 := ⟨_, rfl⟩
      obtain ⟨k2, hk2⟩ : ∃ k2, k2 = k + 2 := ⟨_, rfl⟩
      obtain ⟨k3, hk3⟩ : ∃ k3, k3 = k + 3 := ⟨_, rfl⟩
      obtain ⟨k4, hk4⟩ : ∃ k4, k4 = k + 4 := ⟨_, rfl⟩
      obtain ⟨k5, hk5'⟩ : ∃ k5, k5 = k + 5 := ⟨_, rfl⟩
      obtain ⟨k6, hk6'⟩ : ∃ k6, k6 = k + 6 := ⟨_, rfl⟩
      obtain ⟨q0, hc0⟩ := HPC.out k (by omega)
      obtain ⟨q1, hc1⟩ := HPC.out k1 (by omega)
      obtain ⟨q2, hc2⟩ := HPC.out k2 (by omega)
      obtain ⟨q3, hc3⟩ := HPC.out k3 (by omega)
      obtain ⟨q4, hc4⟩ := HPC.out k4 (by omega)
      obtain ⟨q5, hc5⟩ := HPC.out k5 (by omega)
      have hw1 : IntKind.i64.wrap ((k : Int) + 1) = (k1 : Int) := by rw [IntKind.wrap_i64]; omega
      have hw2 : IntKind.i64.wrap ((k : Int) + 2) = (k2 : Int) := by rw [IntKind.wrap_i64]; omega
      have hw3 : IntKind.i64.wrap ((k : Int) + 3) = (k3 : Int) := by rw [IntKind.wrap_i64]; omega
      have hw4 : IntKind.i64.wrap ((k : Int) + 4) = (k4 : Int) := by rw [IntKind.wrap_i64]; omega
      have hw5 : IntKind.i64.wrap ((k : Int) + 5) = (k5 : Int) := by rw [IntKind.wrap_i64]; omega
      have hw6 : IntKind.i64.wrap ((k : Int) + 6) = (k6 : Int) := by rw [IntKind.wrap_i64]; omega
      have hi0 : (k : Int) < (n1 : Int) := by omega
      have hi1 : (k1 : Int) < (n1 : Int) := by omega
      have hi2 : (k2 : Int) < (n1 : Int) := by omega
      have hi3 : (k3 : Int) < (n1 : Int) := by omega
      have hi4 : (k4 : Int) < (n1 : Int) := by omega
      have hi5 : (k5 : Int) < (n1 : Int) := by omega
      have HK6 : Hid (k6 = k + 6) := Lib.hid hk6'
      clear hk1 hk2 hk3 hk4 hk5' hk6' HPC hk5
      obtain ⟨m0, hm0, hm0r⟩ : ∃ m : Int, q0 % 7 = m ∧ 0 ≤ m ∧ m < 7 := ⟨_, rfl, by omega, by omega⟩
      obtain ⟨m1, hm1, hm1r⟩ : ∃ m : Int, q1 % 4 = m ∧ 0 ≤ m ∧ m < 4 := ⟨_, rfl, by omega, by omega⟩
      obtain ⟨m3, hm3, hm3r⟩ : ∃ m : Int, q3 % 200 = m ∧ 0 ≤ m ∧ m < 200 := ⟨_, rfl, by omega, by omega⟩
      obtain ⟨m4, hm4, hm4r⟩ : ∃ m : Int, q4 % 3 = m ∧ 0 ≤ m ∧ m < 3 := ⟨_, rfl, by omega, by omega⟩
      obtain ⟨mc, hmc, hmcr⟩ : ∃ m : Int, q5 % 200 = m ∧ 0 ≤ m ∧ m < 200 := ⟨_, rfl, by omega, by omega⟩
      obtain ⟨ms, hms, hmsr⟩ : ∃ m : Int, q5 % 4000 = m ∧ 0 ≤ m ∧ m < 4000 := ⟨_, rfl, by omega, by omega⟩
      obtain ⟨mu, hmu, hmur⟩ : ∃ m : Int, q5 % 8 = m ∧ 0 ≤ m ∧ m < 8 := ⟨_, rfl, by omega, by omega⟩
      obtain ⟨lo8, hlo8, hlo8e⟩ : ∃ lo8 : Int, IntKind.i64.wrap (lo + m0) = lo8 ∧ lo8 = lo + m0 := ⟨lo + m0, by rw [IntKind.wrap_i64]; omega, rfl⟩
      have hl8 : lo ≤ lo8 ∧ lo8 ≤ lo + 7 := by omega
      have HLO := Lib.hid hlo8e
      have HM0 := Lib.hid hm0
      have HM1 := Lib.hid hm1
      have HM3 := Lib.hid hm3
      have HM4 := Lib.hid hm4
      have HMC := Lib.hid hmc
      have HMS := Lib.hid hms
      have HMU := Lib.hid hmu
      clear hlo8e hm0 hm1 hm3 hm4 hmc hms hmu
      obtain ⟨hst, hG6, hXG⟩ := box_new (P := Try.prog) wO 27 #[.int .i64 0, .int .i64 0, .slice none 0 0, .slice none 0 0] #[.int .i64 lo8, .int .i64 0, .slice none 0 0, .slice none 0 0] ft_size rfl (by simp [Value.oneCell'])
      go_upto_region 6 with fail
      go_wp2_with fail
      refine (Mod_any q0 7 wO (by omega) (by omega)).mono ?_
      rintro en wM ⟨rfl, rfl⟩
      rw [HM0.out]
      go_upto_region 7 with first | refine wpList_store_run rfl 27 (.tmp 6) (.tmp 29) rfl _ _ _ rfl rfl hst ?_
      obtain ⟨g6, hg6⟩ : ∃ g, g = wO.heap.size := ⟨_, rfl⟩
      have hg6w : wO.heap.size ≤ g6 := by omega
      rw [← hg6] at hG6 hXG ⊢
      generalize (wO.alloc (.cells #[.int .i64 0, .int .i64 0, .slice none 0 0, .slice none 0 0] 27)).setRow g6 #[.int .i64 lo8, .int .i64 0, .slice none 0 0, .slice none 0 0] = w2 at *
      obtain ⟨p0, p1, p2, p3⟩ := blkR hG6
      clear hst hg6 hlo8
      go_wp2_with fail
      clear p0 p1 p2 p3
      go_loopw [7, 8] (fun ai ji wz => ∃ (j : Nat) (a : Int) (ss : List Stp) (y : Value), ji = .int .i64 (j : Int) ∧ Hid (j = ss.length) ∧ j ≤ 4 ∧ ai = .int .i64 a ∧ (lo8 ≤ a ∧ a ≤ lo8 + 900) ∧ wz.heap[g6]? = some (.cells #[.int .i64 lo8, .int .i64 0, y, .slice none 0 0] 27 (0, 0)) ∧ OwnR stpCells 2 78 wO.heap.size wz y ss ∧ Hid (SG lo8 a ss) ∧ Ext wO wz) (fun _ ji _ => 10 - (intOf ji).toNat)
      case atStart => exact ⟨0, lo8, [], .slice none 0 0, rfl, Lib.hid rfl, by omega, rfl, by omega, hG6, OwnR.nil _, Lib.hid (SG.start lo8), hXG⟩
      case round =>
        clear hG6 hXG
        obtain ⟨j, a, ss, y, rfl, HJ, hj4, rfl, ha, hG6, hown, HS, hXz⟩ := hrel
        obtain ⟨wz, rfl⟩ : ∃ wz : World, wz = wr := ⟨_, rfl⟩
        have hd1 := hXz.cell hc1
        go_wp2_with fail
        refine (Mod_any q1 4 wz (by omega) (by omega)).mono ?_
        rintro en wM ⟨rfl, rfl⟩
        rw [HM1.out]
        clear hd1
        by_cases hjm : (j : Int) < m1
        · have dj : decide ((j : Int) < m1) = true := by simpa using hjm
          have hj3 : j < 4 := by omega
          obtain ⟨s2, hs2⟩ : ∃ s, IntKind.i64.wrap (q2 + (j : Int)) = s := ⟨_, rfl⟩
          obtain ⟨m2, hm2, hm2r⟩ : ∃ m : Int, s2 % 4097 = m ∧ 0 ≤ m ∧ m < 4097 := ⟨_, rfl, by omega, by omega⟩
          have HM2 := Lib.hid hm2
          clear hm2 hjm
          go_upto_region 11 with fail
          obtain ⟨wI, rfl⟩ : ∃ W : World, W = wz := ⟨_, rfl⟩
          refine wp_region_Z #[true, true, true, true, true, true, true, true, true, true, true, true, true, true, false, false] y.ownBlock 14 2 (by kernel_rfl) rfl ?_
          refine wpZ_v 0 (.pointer (some ⟨g6, 2, none⟩)) rfl rfl (by kernel_rfl) (by kernel_rfl) (by kernel_rfl) (fun _ _ _ _ h => h) (by kernel_rfl) rfl (by rfl) (fun W' hW => by
            skip
            go_simp) ?_
          simp only [List.setIfInBounds_toArray, List.set_cons_zero, List.set_cons_succ]
          refine wpZ_v 1 (y) rfl rfl (by kernel_rfl) (by kernel_rfl) (by kernel_rfl) (fun _ _ _ _ h => h) (by kernel_rfl) rfl (by rfl) (fun W' hW => by
            have hgw := gtrans (((Ext.refl wI).drew).grownBy _) hW
            have z := blk_at (blk_grown hG6 hgw (hown.ne_blk hG6 (by decide)).symm) 2 _ rfl
            go_simp) ?_
          simp only [List.setIfInBounds_toArray, List.set_cons_zero, List.set_cons_succ]
          refine wpZ_v 2 (.int .i64 a) rfl rfl (by kernel_rfl) (by kernel_rfl) (by kernel_rfl) (fun _ _ _ _ h => h) (by kernel_rfl) rfl (by rfl) (fun W' hW => by
            skip
            go_simp) ?_
          simp only [List.setIfInBounds_toArray, List.set_cons_zero, List.set_cons_succ]
          refine wpZ_v 3 (.slice (some ⟨bp, op, none⟩) n1 c) rfl rfl (by kernel_rfl) (by kernel_rfl) (by kernel_rfl) (fun _ _ _ _ h => h) (by kernel_rfl) rfl (by rfl) (fun W' hW => by
            skip
            go_simp) ?_
          simp only [List.setIfInBounds_toArray, List.set_cons_zero, List.set_cons_succ]
          refine wpZ_v 4 (.int .i64 (k : Int)) rfl rfl (by kernel_rfl) (by kernel_rfl) (by kernel_rfl) (fun _ _ _ _ h => h) (by kernel_rfl) rfl (by rfl) (fun W' hW => by
            skip
            go_simp) ?_
          simp only [List.setIfInBounds_toArray, List.set_cons_zero, List.set_cons_succ]
          refine wpZ_v 5 (.int .i64 (k2 : Int)) rfl rfl (by kernel_rfl) (by kernel_rfl) (by kernel_rfl) (fun _ _ _ _ h => h) (by kernel_rfl) rfl (by rfl) (fun W' hW => by
            skip
            go_simp) ?_
          simp only [List.setIfInBounds_toArray, List.set_cons_zero, List.set_cons_succ]
          refine wpZ_v 6 (.pointer (some ⟨bp, op + k2, none⟩)) rfl rfl (by kernel_rfl) (by kernel_rfl) (by kernel_rfl) (fun _ _ _ _ h => h) (by kernel_rfl) rfl (by rfl) (fun W' hW => by
            skip
            go_simp) ?_
          simp only [List.setIfInBounds_toArray, List.set_cons_zero, List.set_cons_succ]
          refine wpZ_v 7 (.int .i64 q2) rfl rfl (by kernel_rfl) (by kernel_rfl) (by kernel_rfl) (fun _ _ _ _ h => h) (by kernel_rfl) rfl (by rfl) (fun W' hW => by
            have hgw := gtrans (((Ext.refl wI).drew).grownBy _) hW
            have z := (hXz.grown hgw hown.ge).cell hc2
            go_simp) ?_
          simp only [List.setIfInBounds_toArray, List.set_cons_zero, List.set_cons_succ]
          refine wpZ_v 8 (.int .i64 (j : Int)) rfl rfl (by kernel_rfl) (by kernel_rfl) (by kernel_rfl) (fun _ _ _ _ h => h) (by kernel_rfl) rfl (by rfl) (fun W' hW => by
            skip
            go_simp) ?_
          simp only [List.setIfInBounds_toArray, List.set_cons_zero, List.set_cons_succ]
          refine wpZ_v 9 (.int .i64 s2) rfl rfl (by kernel_rfl) (by kernel_rfl) (by kernel_rfl) (fun _ _ _ _ h => h) (by kernel_rfl) rfl (by rfl) (fun W' hW => by
            skip
            go_simp) ?_
          simp only [List.setIfInBounds_toArray, List.set_cons_zero, List.set_cons_succ]
          refine wpZ_c 10 20 #[.int .i64 s2, .int .i64 4097] rfl rfl (by kernel_rfl) rfl (by rfl) (fun W => by go_simp) ?_
          intro W1 hW1
          have hX1 := ((Ext.refl wI).drew).trans hW1
          refine (Mod_any s2 4097 W1 (by omega) (by omega)).mono ?_
          rintro en wM ⟨rfl, rfl⟩
          rw [HM2.out]
          refine ⟨_, rfl, (Ext.refl _).grownBy _, ?_⟩
          simp only [List.setIfInBounds_toArray, List.set_cons_zero, List.set_cons_succ]
          refine wpZ_v 11 (.agg #[.int .i64 a, .int .i64 m2]) rfl rfl (by kernel_rfl) (by kernel_rfl) (by kernel_rfl) (fun _ _ _ _ h => h) (by kernel_rfl) rfl (by rfl) (fun W' hW => by
            skip
            go_simp) ?_
          simp only [List.setIfInBounds_toArray, List.set_cons_zero, List.set_cons_succ]
          refine wpZ_m 12 rfl rfl (by kernel_rfl) rfl (by rfl) fun W2 hW2 => ?_
          have hA := (Ext.refl W2).alloc (.cells #[.int .i64 a, .int .i64 m2] 78)
          refine ⟨.slice (some ⟨W2.heap.size, 0, none⟩) 1 1, W2.alloc (.cells #[.int .i64 a, .int .i64 m2] 78), by go_simp, hA.grownBy _, ?_⟩
          simp only [List.setIfInBounds_toArray, List.set_cons_zero, List.set_cons_succ]
          have hin : InR stpCells (W2.alloc (.cells #[.int .i64 a, .int .i64 m2] 78)) (.slice (some ⟨W2.heap.size, 0, none⟩) 1 1) [⟨a, m2⟩] := (OwnR_one (f := stpCells) W2 ⟨a, m2⟩ rfl 78).inR
          have hX3 := (hX1.trans hW2).trans hA
          generalize W2.alloc (.cells #[.int .i64 a, .int .i64 m2] 78) = W3 at *
          generalize W2.heap.size = gn at *
          refine wpZ_appendR elem_sp 13 (.tmp 43) (.tmp 54) wO.heap.size y ss _ [⟨a, m2⟩] rfl rfl (by kernel_rfl) rfl (by rfl) rfl rfl rfl (hown.ext hX3) hin (fun _ _ => rfl) (fun b hb u hu => by simp only [List.mem_singleton] at hb; subst hb; simp only [stpCells, List.mem_cons, List.not_mem_nil, or_false] at hu; rcases hu with rfl | rfl <;> rfl) (by have := HJ.out; simp only [List.length_cons, List.length_nil]; omega) (by omega) (Nat.le_trans hXz.size hX3.size) fun v4 W4 W5 hW4 ho4 hg4 => ?_
          simp only [List.setIfInBounds_toArray, List.set_cons_zero, List.set_cons_succ]
          have hX4 := hX3.trans hW4
          obtain ⟨A4, c4, hv4, _, _⟩ := ho4.inR
          obtain ⟨n4, hn4⟩ : ∃ n, n = (ss ++ [(⟨a, m2⟩ : Stp)]).length := ⟨_, rfl⟩
          rw [← hn4] at hv4
          subst hv4
          have hj1 : j + 1 = n4 := by rw [hn4, List.length_append, ← HJ.out]; rfl
          have HJ1 := Lib.hid hj1
          have HN4 := Lib.hid hn4
          clear hj1 hn4
          refine wpZ_end rfl fun W6 hW6 => tail_seq 14 rfl (by kernel_rfl) ?_
          simp only [List.drop_succ_cons, List.drop_zero]
          have hB6 := hW6.heap (blk_grown (hX4.heap hG6) hg4.grown (hown.ne_blk hG6 (by decide)).symm)
          have ho6 := ho4.ext hW6
          have hX6 : Ext wO W6 := ((hXz.trans hX4).grown hg4.grown hown.ge).trans hW6
          have f2 := blk_free hB6 2
          have p2 := blk_at hB6 2 _ rfl
          have hlt6 := heap_lt hB6
          clear hW1 hX1 hW2 hA hin hX3 hX4 hW4 ho4 hg4 hW6 hG6 hown
          go_wp2_with fail
          refine NoPanic.normal ?_
          have s6 := gset W6 ⟨g6, 2, none⟩ (.slice A4 n4 c4)
          have hG6 : (W6.setCell ⟨g6, 2, none⟩ (.slice A4 n4 c4)).heap[g6]? = some (.cells #[.int .i64 lo8, .int .i64 0, .slice A4 n4 c4, .slice none 0 0] 27 (0, 0)) := blk_set hB6 2 _
          have hown := ho6.kept s6 (.inr (ho6.ne_blk hB6 (by decide)))
          have hXn := hX6.grown s6 (fun k e => by cases e; exact hg6w)
          clear s6 hB6 ho6 hX6 f2 p2 hlt6
          generalize W6.setCell ⟨g6, 2, none⟩ (.slice A4 n4 c4) = wN at *
          have hd3 := hXn.cell hc3
          have hwa : IntKind.i64.wrap (a + 1) = a + 1 := by rw [IntKind.wrap_i64]; omega
          go_wp2_with fail
          refine (Mod_any q3 200 wN (by omega) (by omega)).mono ?_
          rintro en wM ⟨rfl, rfl⟩
          rw [HM3.out]
          obtain ⟨a2, ha2, ha2e⟩ : ∃ a2 : Int, IntKind.i64.wrap (a + 1 + m3) = a2 ∧ a2 = a + 1 + m3 := ⟨a + 1 + m3, by rw [IntKind.wrap_i64]; omega, rfl⟩
          have HSN : Hid (SG lo8 a2 (ss ++ [⟨a, m2⟩])) := Lib.hid (HS.out.push (by omega) (by omega) (by have := HJ.out; omega))
          have hat := HSN.out.top
          have hal := HSN.out.len
          rw [← HN4.out] at hat hal
          have hwj : IntKind.i64.wrap ((j : Int) + 1) = (n4 : Int) := by have := HJ1.out; rw [IntKind.wrap_i64]; omega
          clear ha2e hd3 hs2
          go_wp2_with fail
          go_roundw
          case rel => exact ⟨n4, a2, ss ++ [⟨a, m2⟩], _, by first | (with_reducible rfl) | go_num, HN4, hal, by first | (with_reducible rfl) | go_num, by omega, hG6, hown, HSN, hXn⟩
          case measure => have := HJ1.out; simp [intOf]; omega
        · have dj : decide ((j : Int) < m1) = false := by simpa using hjm
          clear hjm
          obtain ⟨AY, cY, hyv, _, _⟩ := hown.inR
          rw [← HJ.out] at hyv
          subst hyv
          go_wp2_with fail
          clear dj
          go_loopw [9] (fun ji wq => ∃ (i : Nat) (os : List Obj) (z : Value), ji = .int .i64 (i : Int) ∧ i ≤ 4 ∧ wq.heap[g6]? = some (.cells #[.int .i64 lo8, .int .i64 0, .slice AY j cY, z] 27 (0, 0)) ∧ OwnR stpCells 2 78 wO.heap.size wq (.slice AY j cY) ss ∧ OwnR objCells 4 83 wO.heap.size wq z os ∧ Hid (OG i os) ∧ Ext wO wq) (fun ji _ => 10 - (intOf ji).toNat)
          case atStart => exact ⟨0, [], .slice none 0 0, rfl, by omega, hG6, hown, OwnR.nil _, Lib.hid OG.start, hXz⟩
          case round =>
            clear hG6 hown hXz
            obtain ⟨i, os, z, rfl, hi4, hG6, hown, hobj, HO, hXz⟩ := hrel
            obtain ⟨wq, rfl⟩ : ∃ wq : World, wq = wr := ⟨_, rfl⟩
            have hd4 := hXz.cell hc4
            go_wp2_with fail
            refine (Mod_any q4 3 wq (by omega) (by omega)).mono ?_
            rintro en wM ⟨rfl, rfl⟩
            rw [HM4.out]
            clear hd4
            by_cases him : (i : Int) < m4
            · have di : decide ((i : Int) < m4) = true := by simpa using him
              have hi3 : i < 4 := by omega
              clear him
              obtain ⟨mw, hmw, hmwr⟩ : ∃ m : Int, IntKind.i64.wrap (1 + mu) = m ∧ 1 ≤ m ∧ m ≤ 8 := ⟨1 + mu, by rw [IntKind.wrap_i64]; omega, by omega, by omega⟩
              go_upto_region 16 with fail
              obtain ⟨wI, rfl⟩ : ∃ W : World, W = wq := ⟨_, rfl⟩
              refine wp_region_Z #[true, true, true, true, true, true, true, true, true, true, true, true, true, true, true, true, true, true, true, true, true, true, true, true, true, false, false] z.ownBlock 25 2 (by kernel_rfl) rfl ?_
              refine wpZ_v 0 (.pointer (some ⟨g6, 3, none⟩)) rfl rfl (by kernel_rfl) (by kernel_rfl) (by kernel_rfl) (fun _ _ _ _ h => h) (by kernel_rfl) rfl (by rfl) (fun W' hW => by
                skip
                go_simp) ?_
              simp only [List.setIfInBounds_toArray, List.set_cons_zero, List.set_cons_succ]
              refine wpZ_v 1 (z) rfl rfl (by kernel_rfl) (by kernel_rfl) (by kernel_rfl) (fun _ _ _ _ h => h) (by kernel_rfl) rfl (by rfl) (fun W' hW => by
                have hgw := gtrans (((Ext.refl wI).drew).grownBy _) hW
                have z := blk_at (blk_grown hG6 hgw (hobj.ne_blk hG6 (by decide)).symm) 3 _ rfl
                go_simp) ?_
              simp only [List.setIfInBounds_toArray, List.set_cons_zero, List.set_cons_succ]
              refine wpZ_v 2 (.slice (some ⟨bp, op, none⟩) n1 c) rfl rfl (by kernel_rfl) (by kernel_rfl) (by kernel_rfl) (fun _ _ _ _ h => h) (by kernel_rfl) rfl (by rfl) (fun W' hW => by
                skip
                go_simp) ?_
              simp only [List.setIfInBounds_toArray, List.set_cons_zero, List.set_cons_succ]
              refine wpZ_v 3 (.int .i64 (k : Int)) rfl rfl (by kernel_rfl) (by kernel_rfl) (by kernel_rfl) (fun _ _ _ _ h => h) (by kernel_rfl) rfl (by rfl) (fun W' hW => by
                skip
                go_simp) ?_
              simp only [List.setIfInBounds_toArray, List.set_cons_zero, List.set_cons_succ]
              refine wpZ_v 4 (.int .i64 (k5 : Int)) rfl rfl (by kernel_rfl) (by kernel_rfl) (by kernel_rfl) (fun _ _ _ _ h => h) (by kernel_rfl) rfl (by rfl) (fun W' hW => by
                skip
                go_simp) ?_
              simp only [List.setIfInBounds_toArray, List.set_cons_zero, List.set_cons_succ]
              refine wpZ_v 5 (.pointer (some ⟨bp, op + k5, none⟩)) rfl rfl (by kernel_rfl) (by kernel_rfl) (by kernel_rfl) (fun _ _ _ _ h => h) (by kernel_rfl) rfl (by rfl) (fun W' hW => by
                skip
                go_simp) ?_
              simp only [List.setIfInBounds_toArray, List.set_cons_zero, List.set_cons_succ]
              refine wpZ_v 6 (.int .i64 q5) rfl rfl (by kernel_rfl) (by kernel_rfl) (by kernel_rfl) (fun _ _ _ _ h => h) (by kernel_rfl) rfl (by rfl) (fun W' hW => by
                have hgw := gtrans (((Ext.refl wI).drew).grownBy _) hW
                have z := (hXz.grown hgw hobj.ge).cell hc5
                go_simp) ?_
              simp only [List.setIfInBounds_toArray, List.set_cons_zero, List.set_cons_succ]
              refine wpZ_v 8 (.int .i64 (i : Int)) rfl rfl (by kernel_rfl) (by kernel_rfl) (by kernel_rfl) (fun _ _ _ _ h => h) (by kernel_rfl) rfl (by rfl) (fun W' hW => by
                skip
                go_simp) ?_
              simp only [List.setIfInBounds_toArray, List.set_cons_zero, List.set_cons_succ]
              refine wpZ_v 9 (.slice (some ⟨bp, op, none⟩) n1 c) rfl rfl (by kernel_rfl) (by kernel_rfl) (by kernel_rfl) (fun _ _ _ _ h => h) (by kernel_rfl) rfl (by rfl) (fun W' hW => by
                skip
                go_simp) ?_
              simp only [List.setIfInBounds_toArray, List.set_cons_zero, List.set_cons_succ]
              refine wpZ_v 10 (.int .i64 (k : Int)) rfl rfl (by kernel_rfl) (by kernel_rfl) (by kernel_rfl) (fun _ _ _ _ h => h) (by kernel_rfl) rfl (by rfl) (fun W' hW => by
                skip
                go_simp) ?_
              simp only [List.setIfInBounds_toArray, List.set_cons_zero, List.set_cons_succ]
              refine wpZ_v 11 (.int .i64 (k5 : Int)) rfl rfl (by kernel_rfl) (by kernel_rfl) (by kernel_rfl) (fun _ _ _ _ h => h) (by kernel_rfl) rfl (by rfl) (fun W' hW => by
                skip
                go_simp) ?_
              simp only [List.setIfInBounds_toArray, List.set_cons_zero, List.set_cons_succ]
              refine wpZ_v 12 (.pointer (some ⟨bp, op + k5, none⟩)) rfl rfl (by kernel_rfl) (by kernel_rfl) (by kernel_rfl) (fun _ _ _ _ h => h) (by kernel_rfl) rfl (by rfl) (fun W' hW => by
                skip
                go_simp) ?_
              simp only [List.setIfInBounds_toArray, List.set_cons_zero, List.set_cons_succ]
              refine wpZ_v 13 (.int .i64 q5) rfl rfl (by kernel_rfl) (by kernel_rfl) (by kernel_rfl) (fun _ _ _ _ h => h) (by kernel_rfl) rfl (by rfl) (fun W' hW => by
                have hgw := gtrans (((Ext.refl wI).drew).grownBy _) hW
                have z := (hXz.grown hgw hobj.ge).cell hc5
                go_simp) ?_
              simp only [List.setIfInBounds_toArray, List.set_cons_zero, List.set_cons_succ]
              refine wpZ_v 15 (.slice (some ⟨bp, op, none⟩) n1 c) rfl rfl (by kernel_rfl) (by kernel_rfl) (by kernel_rfl) (fun _ _ _ _ h => h) (by kernel_rfl) rfl (by rfl) (fun W' hW => by
                skip
                go_simp) ?_
              simp only [List.setIfInBounds_toArray, List.set_cons_zero, List.set_cons_succ]
              refine wpZ_v 16 (.int .i64 (k : Int)) rfl rfl (by kernel_rfl) (by kernel_rfl) (by kernel_rfl) (fun _ _ _ _ h => h) (by kernel_rfl) rfl (by rfl) (fun W' hW => by
                skip
                go_simp) ?_
              simp only [List.setIfInBounds_toArray, List.set_cons_zero, List.set_cons_succ]
              refine wpZ_v 17 (.int .i64 (k5 : Int)) rfl rfl (by kernel_rfl) (by kernel_rfl) (by kernel_rfl) (fun _ _ _ _ h => h) (by kernel_rfl) rfl (by rfl) (fun W' hW => by
                skip
                go_simp) ?_
              simp only [List.setIfInBounds_toArray, List.set_cons_zero, List.set_cons_succ]
              refine wpZ_v 18 (.pointer (some ⟨bp, op + k5, none⟩)) rfl rfl (by kernel_rfl) (by kernel_rfl) (by kernel_rfl) (fun _ _ _ _ h => h) (by kernel_rfl) rfl (by rfl) (fun W' hW => by
                skip
                go_simp) ?_
              simp only [List.setIfInBounds_toArray, List.set_cons_zero, List.set_cons_succ]
              refine wpZ_v 19 (.int .i64 q5) rfl rfl (by kernel_rfl) (by kernel_rfl) (by kernel_rfl) (fun _ _ _ _ h => h) (by kernel_rfl) rfl (by rfl) (fun W' hW => by
                have hgw := gtrans (((Ext.refl wI).drew).grownBy _) hW
                have z := (hXz.grown hgw hobj.ge).cell hc5
                go_simp) ?_
              simp only [List.setIfInBounds_toArray, List.set_cons_zero, List.set_cons_succ]
              refine wpZ_c 7 20 #[.int .i64 q5, .int .i64 200] rfl rfl (by kernel_rfl) rfl (by rfl) (fun W => by go_simp) ?_
              intro W1 hW1
              have hX1 := ((Ext.refl wI).drew).trans hW1
              refine (Mod_any q5 200 W1 (by omega) (by omega)).mono ?_
              rintro en wM ⟨rfl, rfl⟩
              rw [HMC.out]
              refine ⟨_, rfl, (Ext.refl _).grownBy _, ?_⟩
              simp only [List.setIfInBounds_toArray, List.set_cons_zero, List.set_cons_succ]
              refine wpZ_c 14 20 #[.int .i64 q5, .int .i64 4000] rfl rfl (by kernel_rfl) rfl (by rfl) (fun W => by go_simp) ?_
              intro W1b hW1b
              have hX1b := hX1.trans hW1b
              refine (Mod_any q5 4000 W1b (by omega) (by omega)).mono ?_
              rintro en wM ⟨rfl, rfl⟩
              rw [HMS.out]
              refine ⟨_, rfl, (Ext.refl _).grownBy _, ?_⟩
              simp only [List.setIfInBounds_toArray, List.set_cons_zero, List.set_cons_succ]
              refine wpZ_c 20 20 #[.int .i64 q5, .int .i64 8] rfl rfl (by kernel_rfl) rfl (by rfl) (fun W => by go_simp) ?_
              intro W1c hW1c
              have hX1c := hX1b.trans hW1c
              refine (Mod_any q5 8 W1c (by omega) (by omega)).mono ?_
              rintro en wM ⟨rfl, rfl⟩
              rw [HMU.out]
              refine ⟨_, rfl, (Ext.refl _).grownBy _, ?_⟩
              simp only [List.setIfInBounds_toArray, List.set_cons_zero, List.set_cons_succ]
              refine wpZ_v 21 (.int .i64 mw) rfl rfl (by kernel_rfl) (by kernel_rfl) (by kernel_rfl) (fun _ _ _ _ h => h) (by kernel_rfl) rfl (by rfl) (fun W' hW => by
                skip
                go_simp) ?_
              simp only [List.setIfInBounds_toArray, List.set_cons_zero, List.set_cons_succ]
              refine wpZ_v 22 (.agg #[.int .i64 mc, .int .i64 (i : Int), .int .i64 ms, .int .i64 mw]) rfl rfl (by kernel_rfl) (by kernel_rfl) (by kernel_rfl) (fun _ _ _ _ h => h) (by kernel_rfl) rfl (by rfl) (fun W' hW => by
                skip
                go_simp) ?_
              simp only [List.setIfInBounds_toArray, List.set_cons_zero, List.set_cons_succ]
              refine wpZ_m 23 rfl rfl (by kernel_rfl) rfl (by rfl) fun W2 hW2 => ?_
              have hA := (Ext.refl W2).alloc (.cells #[.int .i64 mc, .int .i64 (i : Int), .int .i64 ms, .int .i64 mw] 83)
              refine ⟨.slice (some ⟨W2.heap.size, 0, none⟩) 1 1, W2.alloc (.cells #[.int .i64 mc, .int .i64 (i : Int), .int .i64 ms, .int .i64 mw] 83), by go_simp, hA.grownBy _, ?_⟩
              simp only [List.setIfInBounds_toArray, List.set_cons_zero, List.set_cons_succ]
              have hin : InR objCells (W2.alloc (.cells #[.int .i64 mc, .int .i64 (i : Int), .int .i64 ms, .int .i64 mw] 83)) (.slice (some ⟨W2.heap.size, 0, none⟩) 1 1) [⟨mc, (i : Int), ms, mw⟩] := (OwnR_one (f := objCells) W2 ⟨mc, (i : Int), ms, mw⟩ rfl 83).inR
              have hX3 := (hX1c.trans hW2).trans hA
              generalize W2.alloc (.cells #[.int .i64 mc, .int .i64 (i : Int), .int .i64 ms, .int .i64 mw] 83) = W3 at *
              generalize W2.heap.size = gn at *
              refine wpZ_appendR elem_ob 24 (.tmp 77) (.tmp 99) wO.heap.size z os _ [⟨mc, (i : Int), ms, mw⟩] rfl rfl (by kernel_rfl) rfl (by rfl) rfl rfl rfl (hobj.ext hX3) hin (fun _ _ => rfl) (fun b hb u hu => by simp only [List.mem_singleton] at hb; subst hb; simp only [objCells, List.mem_cons, List.not_mem_nil, or_false] at hu; rcases hu with rfl | rfl | rfl | rfl <;> rfl) (by have := HO.out.len; simp only [List.length_cons, List.length_nil]; omega) (by omega) (Nat.le_trans hXz.size hX3.size) fun v4 W4 W5 hW4 ho4 hg4 => ?_
              simp only [List.setIfInBounds_toArray, List.set_cons_zero, List.set_cons_succ]
              have hX4 := hX3.trans hW4
              obtain ⟨A4, c4, hv4, _, _⟩ := ho4.inR
              obtain ⟨n4, hn4⟩ : ∃ n, n = (os ++ [(⟨mc, (i : Int), ms, mw⟩ : Obj)]).length := ⟨_, rfl⟩
              rw [← hn4] at hv4
              subst hv4
              clear hn4
              refine wpZ_end rfl fun W6 hW6 => tail_seq 25 rfl (by kernel_rfl) ?_
              simp only [List.drop_succ_cons, List.drop_zero]
              have hB6 := hW6.heap (blk_grown (hX4.heap hG6) hg4.grown (hobj.ne_blk hG6 (by decide)).symm)
              have ho6 := ho4.ext hW6
              have hs6 := ((hown.ext hX4).kept hg4.grown (row_ne hown hobj (by decide))).ext hW6
              have hX6 : Ext wO W6 := ((hXz.trans hX4).grown hg4.grown hobj.ge).trans hW6
              have f2 := blk_free hB6 3
              have p2 := blk_at hB6 3 _ rfl
              have hlt6 := heap_lt hB6
              clear hW1 hX1 hW1b hX1b hW1c hX1c hW2 hA hin hX3 hX4 hW4 ho4 hg4 hW6 hG6 hown hobj
              go_wp2_with fail
              refine NoPanic.normal ?_
              have s6 := gset W6 ⟨g6, 3, none⟩ (.slice A4 n4 c4)
              have hG6 : (W6.setCell ⟨g6, 3, none⟩ (.slice A4 n4 c4)).heap[g6]? = some (.cells #[.int .i64 lo8, .int .i64 0, .slice AY j cY, .slice A4 n4 c4] 27 (0, 0)) := blk_set hB6 3 _
              have hobj := ho6.kept s6 (.inr (ho6.ne_blk hB6 (by decide)))
              have hown := hs6.kept s6 (.inr (hs6.ne_blk hB6 (by decide)))
              have hXn := hX6.grown s6 (fun k e => by cases e; exact hg6w)
              clear s6 hB6 ho6 hs6 hX6 f2 p2 hlt6 hmw
              generalize W6.setCell ⟨g6, 3, none⟩ (.slice A4 n4 c4) = wN at *
              obtain ⟨i1, hi1'⟩ : ∃ i1, i1 = i + 1 := ⟨_, rfl⟩
              have HON : Hid (OG i1 (os ++ [⟨mc, (i : Int), ms, mw⟩])) := Lib.hid (by rw [hi1']; exact HO.out.push (by omega) (by omega) (by omega) (by omega))
              have hwj : IntKind.i64.wrap ((i : Int) + 1) = (i1 : Int) := by rw [IntKind.wrap_i64]; omega
              have hi14 : i1 ≤ 4 := by omega
              have HI1 := Lib.hid hi1'
              clear hi1'
              go_wp2_with fail
              go_roundw
              case rel => exact ⟨i1, os ++ [⟨mc, (i : Int), ms, mw⟩], _, by first | (with_reducible rfl) | go_num, hi14, hG6, hown, hobj, HON, hXn⟩
              case measure => have := HI1.out; simp [intOf]; omega
            · have di : decide ((i : Int) < m4) = false := by simpa using him
              clear him
              obtain ⟨AZ, cZ, hzv, _, _⟩ := hobj.inR
              have hol := HO.out.len
              rw [hol] at hzv
              subst hzv
              have hwa : IntKind.i64.wrap (a + 1) = a + 1 := by rw [IntKind.wrap_i64]; omega
              have f1 := blk_free hG6 1
              have p1 := blk_at hG6 1 _ rfl
              have hlt6 := heap_lt hG6
              clear hol
              go_upto_region 18 with fail
              have s6 := gset wq ⟨g6, 1, none⟩ (.int .i64 (a + 1))
              have hG6n : (wq.setCell ⟨g6, 1, none⟩ (.int .i64 (a + 1))).heap[g6]? = some (.cells #[.int .i64 lo8, .int .i64 (a + 1), .slice AY j cY, .slice AZ i cZ] 27 (0, 0)) := blk_set hG6 1 _
              have hobn := hobj.kept s6 (.inr (hobj.ne_blk hG6 (by decide)))
              have hown' := hown.kept s6 (.inr (hown.ne_blk hG6 (by decide)))
              have hXn := hXz.grown s6 (fun k e => by cases e; exact hg6w)
              clear s6 hG6 hobj hown hXz f1 p1 hlt6
              generalize wq.setCell ⟨g6, 1, none⟩ (.int .i64 (a + 1)) = wM at *
              obtain ⟨t0, t1, t2, t3⟩ := blkR hG6n
              have hTM := hT.ext hXn
              obtain ⟨zt, hz1, hz2, hz3⟩ := hTM
              have HZ1 := Lib.hid hz1
              have HZ3 := Lib.hid hz3
              have hzl : zt.length ≤ 5 := by have : zt.length = l.length := by rw [← hz1]; simp
                                             have := HNL.out; omega
              clear hz1 hz3
              obtain ⟨tt, htt⟩ : ∃ tt : FTab, tt = ⟨lo8, a + 1, ss, os⟩ := ⟨_, rfl⟩
              have hldt := run_loadAt_blk (P := Try.prog) wM g6 27 27 _ (0, 0) _ hG6n Try.underlying27 rfl ft_size
              have hA5 := (Ext.refl wM).alloc (.cells #[.int .i64 lo8, .int .i64 (a + 1), .slice AY j cY, .slice AZ i cZ] 27)
              have hin5 : InR ftabCells (wM.alloc (.cells #[.int .i64 lo8, .int .i64 (a + 1), .slice AY j cY, .slice AZ i cZ] 27)) (.slice (some ⟨wM.heap.size, 0, none⟩) 1 1) [(tt, .slice AY j cY, .slice AZ i cZ)] := by
                rw [htt]; exact (OwnR_one (f := ftabCells) wM (⟨lo8, a + 1, ss, os⟩, .slice AY j cY, .slice AZ i cZ) rfl 27).inR
              have hXM := (hX.trans hXn).trans hA5
              have hsz5 := hXM.size
              have HTT := Lib.hid htt
              clear htt
              go_wp2_with first | refine wpList_load_run rfl 27 (.tmp 6) rfl _ _ rfl hldt ?_ | refine wpList_rowOne elem_ft rfl (.tmp 108) rfl #[.int .i64 lo8, .int .i64 (a + 1), .slice AY j cY, .slice AZ i cZ] rfl rfl (by omega) ?_ | (at_builtin; go_must (refine wpList_appendR elem_ft rfl (.tmp 107) (.tmp 109) rfl w.heap.size _ zt rfl (hz2.ext hA5) _ [(tt, .slice AY j cY, .slice AZ i cZ)] rfl hin5 (fun _ _ => rfl) (fun b hb u hu => by simp only [List.mem_singleton] at hb; subst hb; simp only [ftabCells, List.mem_cons, List.not_mem_nil, or_false] at hu; rcases hu with rfl | rfl | rfl | rfl <;> rfl) (by simp only [List.length_cons, List.length_nil]; omega) (by omega) hsz5 (Hold.out ?_)))
              refine Hold.mk fun v9 w9 ho9 hg9 => ?_
              have hTn : FOwn w.heap.size w9 v9 (l ++ [tt]) := by
                refine ⟨zt ++ [(tt, .slice AY j cY, .slice AZ i cZ)], by rw [List.map_append, HZ1.out]; rfl, ho9, fun z hz => ?_⟩
                have hn1' : ∀ (v : Value) (r : List Stp), OwnR stpCells 2 78 w.heap.size (wM.alloc (.cells #[.int .i64 lo8, .int .i64 (a + 1), .slice AY j cY, .slice AZ i cZ] 27)) v r → OwnR stpCells 2 78 w.heap.size w9 v r := fun v r hzz => hzz.kept hg9.grown (row_ne hzz (hz2.ext hA5) (by decide))
                have hn2' : ∀ (v : Value) (r : List Obj), OwnR objCells 4 83 w.heap.size (wM.alloc (.cells #[.int .i64 lo8, .int .i64 (a + 1), .slice AY j cY, .slice AZ i cZ] 27)) v r → OwnR objCells 4 83 w.heap.size w9 v r := fun v r hzz => hzz.kept hg9.grown (row_ne hzz (hz2.ext hA5) (by decide))
                rcases List.mem_append.1 hz with hz | hz
                · exact ⟨hn1' _ _ ((HZ3.out z hz).1.ext hA5), hn2' _ _ ((HZ3.out z hz).2.ext hA5)⟩
                · simp only [List.mem_singleton] at hz
                  subst hz
                  rw [HTT.out]
                  exact ⟨hn1' _ _ ((hown'.low hX.size).ext hA5), hn2' _ _ ((hobn.low hX.size).ext hA5)⟩
              have hX9 : Ext w w9 := hg9.ext hXM hz2.ge
              have HGn : Hid (FG (a + 1) (l ++ [tt])) := Lib.hid (by
                have h := HG.out.push (m := m0) (a := a) (k := i) (ss := ss) (os := os) (by have := HNL.out; omega) hm0r (by rw [← HLO.out]; exact HS.out) HO.out hi4
                rw [HTT.out, HLO.out]
                exact h)
              have hb1 := HGn.out.pos
              have hb2 := HGn.out.top
              have hb3 : (l ++ [tt]).length = nl + 1 := by rw [List.length_append, ← HNL.out]; rfl
              rw [hb3] at hb2
              have HB3 := Lib.hid hb3
              have HK6N : Hid (k6 ≤ 6 * (l ++ [tt]).length) := Lib.hid (by have := HK6.out; have := HK6L.out; have := HNL.out; omega)
              have hlon : 0 ≤ a + 1 ∧ a + 1 ≤ 4500 := by omega
              clear hldt hA5 hin5 hXM hsz5 ho9 hg9 hz2 hb1 hb2 hb3 t0 t1 t2 t3 hG6n hobn hown' hXn hT
              go_wp2_with fail
              go_roundw
              case rel => exact ⟨l ++ [tt], a + 1, k6, by first | (with_reducible rfl) | go_num, HK6N, by first | (with_reducible rfl) | go_num, hlon, by rw [HB3.out]; omega, hTn, HGn, hX9⟩
              case measure => have := HK6.out; simp [intOf]; omega
end Go.Proofs.Ytokmbdeafjmcjaa
