/- TransportWindow: the walk. -/
import Derived.Test.YtnobepobalpccaaProtJ
import Derived.Test.YtnobepobalpccaaProtW
import Derived.Test.YtnobepobalpccaaTraH
namespace Go.Proofs.Ytnobepobalpccaa
open Go.RowKit
set_option linter.unusedVariables false

theorem fates_st {w W : World} {y : Value} {zs : List (Fate × Value)} {xs : List Nat} {b0 : Nat} (h1 : OwnR fateCells 3 44 b0 w y zs) (h2 : ∀ z ∈ zs, OwnV iv 3 b0 w z.2 z.1.delays) (he : Ext w W) (hx : ∀ x ∈ xs, x < b0 ∨ w.heap.size ≤ x) : St xs W (fun W' => FatesIn W' y (zs.map Prod.fst)) := fun W' hk => by
  have a1 := St.ownR (xs := xs) (h1.ext he) (fun x hm e => by have := h1.lt x e; have := h1.ge x e; have := hx x hm; omega) W' hk
  refine ⟨zs, rfl, a1.inR, fun z hz => ?_⟩
  have a2 := St.ownV (xs := xs) ((h2 z hz).ext he) (fun x hm e => by have := (h2 z hz).lt x e; have := (h2 z hz).ge x e; have := hx x hm; omega) W' hk
  exact a2.inV
def newS (n : Int) (fs : List Fate) : SD := ⟨newE n, [], fs, 0, [], 0⟩
theorem SdIn.new {xs : List Nat} {W : World} {b : Nat} {n : Int} {fs : List Fate} {ftv : Value} (hb : W.heap[b]? = some (.cells (sdCells (newE n) (.slice none 0 0) (.slice none 0 0) ftv 0 (.slice none 0 0) 0) 34 (0, 0))) (hf : St xs W (fun W' => FatesIn W' ftv fs)) : SdIn xs W b (newS n fs) (.slice none 0 0) :=
  ⟨none, 0, none, 0, ftv, [], hb, fun W' _ => QIn.nil W', rfl, fun W' _ => InR.nil W', by simp, hf⟩
theorem newS_LS {n : Int} {fs : List Fate} (hn : 1 ≤ n ∧ n ≤ 20) (hf : ∀ f ∈ fs, f.OK) (k m : Nat) : (newS n fs).LS k m :=
  ⟨⟨hn, by simp [newS, newE], newE_cons n, by simp [newS, newE], by simp [newS, newE], by simp [newS, newE], by simp [newS, newE]⟩, by simp [newS], by simp [newS], hf, ⟨by simp [newS], by simp [newS]⟩, by simp [newS, newE], by simp [newS, newE]⟩
theorem new_win (fa fb : List Fate) : Win 0 (newS 1 fa) (newS 1 fb) :=
  ⟨⟨rfl, .inl rfl, fun _ => ⟨rfl, rfl⟩, rfl, by simp [newS, newE], by simp [newS, newE], by simp [newS]⟩, ⟨rfl, .inl rfl, fun _ => rfl, rfl, rfl, by simp [newS]⟩, by simp [newS, newE], by simp [newS, newE]⟩
theorem push_small (e : EP) (h : e.queue.length < 1000) (x : List UInt8) (hx : x.length ≤ 10) : pushF e x = (⟨e.epoch, e.peer, e.acked, e.sent, e.got, e.timer, e.queue ++ [x], e.owe⟩, 0) := by
  rw [pushF, if_neg (by omega), if_neg (by omega)]
set_option maxHeartbeats 40000000 in
set_option maxRecDepth 100000 in
theorem window_walk (x y z : Value) (toA toB pushes : List Int) (w : World) (hx : InI w x toA) (hy : InI w y toB) (hz : InI w z pushes) :
    Calls Try.prog 6 #[x, y, z] w fun en w' => en = .returned (.bool true) ∧ Ext w w' := by
  obtain ⟨A1, c1, rfl, _, _⟩ := id hx
  obtain ⟨A2, c2, rfl, _, _⟩ := id hy
  obtain ⟨A3, c3, rfl, _, hr3⟩ := id hz
  go_enter Try.func6, Try.ntmps6
  go_wp2_with fail
  refine (New_any 1 w).mono ?_
  rintro en w1 ⟨rfl, hx1⟩
  go_wp2_with fail
  refine (Fates_any _ toB w1 (hy.ext hx1)).mono ?_
  rintro en w2 ⟨ya, za, rfl, hoa, hda, hla, hka, hx2⟩
  have hE2 := hx1.trans hx2
  obtain ⟨Ya, ca, rfl, _, _⟩ := hoa.inR
  go_upto_region 2 with fail
  have hBa := heap_alloc_new w2 (.cells #[.int .i64 1, .int .i64 0, .int .i64 0, .int .i64 0, .int .i64 0, .int .i64 0, .slice none 0 0, .bool false, .slice none 0 0, .slice Ya za.length ca, .int .i64 0, .slice none 0 0, .int .i64 0] 34)
  have hA3 := (Ext.refl w2).alloc (.cells #[.int .i64 1, .int .i64 0, .int .i64 0, .int .i64 0, .int .i64 0, .int .i64 0, .slice none 0 0, .bool false, .slice none 0 0, .slice Ya za.length ca, .int .i64 0, .slice none 0 0, .int .i64 0] 34)
  generalize w2.alloc (.cells #[.int .i64 1, .int .i64 0, .int .i64 0, .int .i64 0, .int .i64 0, .int .i64 0, .slice none 0 0, .bool false, .slice none 0 0, .slice Ya za.length ca, .int .i64 0, .slice none 0 0, .int .i64 0] 34) = w3 at *
  have hE3 := hE2.trans hA3
  have hlta := heap_lt hBa
  go_wp2_with fail
  refine (New_any 1 w3).mono ?_
  rintro en w4 ⟨rfl, hx4⟩
  go_wp2_with fail
  refine (Fates_any _ toA w4 (hx.ext (hE3.trans hx4))).mono ?_
  rintro en w5 ⟨yb, zb, rfl, hob, hdb, hlb, hkb, hx5⟩
  obtain ⟨Yb, cb, rfl, _, _⟩ := hob.inR
  have hX5 := hx4.trans hx5
  go_upto_region 3 with fail
  have hBb := heap_alloc_new w5 (.cells #[.int .i64 1, .int .i64 0, .int .i64 0, .int .i64 0, .int .i64 0, .int .i64 0, .slice none 0 0, .bool false, .slice none 0 0, .slice Yb zb.length cb, .int .i64 0, .slice none 0 0, .int .i64 0] 34)
  have hA6 := (Ext.refl w5).alloc (.cells #[.int .i64 1, .int .i64 0, .int .i64 0, .int .i64 0, .int .i64 0, .int .i64 0, .slice none 0 0, .bool false, .slice none 0 0, .slice Yb zb.length cb, .int .i64 0, .slice none 0 0, .int .i64 0] 34)
  generalize w5.alloc (.cells #[.int .i64 1, .int .i64 0, .int .i64 0, .int .i64 0, .int .i64 0, .int .i64 0, .slice none 0 0, .bool false, .slice none 0 0, .slice Yb zb.length cb, .int .i64 0, .slice none 0 0, .int .i64 0] 34) = w6 at *
  have hX6 := hX5.trans hA6
  have hE6 := hE3.trans hX6
  have hBa6 := hX6.heap hBa
  have hlab : w2.heap.size < w5.heap.size := Nat.lt_of_lt_of_le hlta hX5.size
  have hXS : XSt w w6 w2.heap.size w5.heap.size (newS 1 (za.map Prod.fst)) (newS 1 (zb.map Prod.fst)) (.slice none 0 0) (.slice none 0 0) := by
    have hxs : ∀ x ∈ xsOf w2.heap.size w5.heap.size (.slice none 0 0) (.slice none 0 0), x = w2.heap.size ∨ x = w5.heap.size := fun x hx => by
      rw [mem_xs] at hx
      rcases hx with h | h | h | h
      · exact .inl h
      · exact .inr h
      · cases h
      · cases h
    refine ⟨SdIn.new hBa6 (fates_st hoa hda (hA3.trans hX6) (fun x hx => by rcases hxs x hx with rfl | rfl <;> exact .inr (by omega))), SdIn.new hBb (fates_st hob hdb hA6 (fun x hx => by have := hx4.size; rcases hxs x hx with rfl | rfl <;> omega)), by omega, OwnV.nil _, OwnV.nil _, (fun k h => by cases h), hE2.size, Nat.le_trans hE2.size (by omega), hE6⟩
  have HFA : Hid (∀ f ∈ za.map Prod.fst, f.OK) := Lib.hid (fun f hf => by obtain ⟨z, hz, rfl⟩ := List.mem_map.1 hf; exact hka z hz)
  have HFB : Hid (∀ f ∈ zb.map Prod.fst, f.OK) := Lib.hid (fun f hf => by obtain ⟨z, hz, rfl⟩ := List.mem_map.1 hf; exact hkb z hz)
  have HZ := Lib.hid hr3
  clear hBa hA3 hE3 hoa hda hla hka hob hdb hlb hkb hX5 hA6 hX6 hBa6 hBb hx1 hx2 hx4 hx5 hE2 hE6 hlta hr3 hx hy hz
  generalize w2.heap.size = ba at *
  generalize w5.heap.size = bb at *
  generalize (za.map Prod.fst) = fa at *
  generalize (zb.map Prod.fst) = fb at *
  go_wp2_with fail
  refine (awake35_any w6).mono ?_
  rintro en w7 ⟨rfl, hx7⟩
  have hXS7 := hXS.extW hx7
  clear hXS
  go_wp2_with fail
  go_loopw [9, 10] (fun v i wr => ∃ (T : Nat) (a b : SD) (gA gB : Value) (N : Int), T ≤ 300 ∧ i = .int .i64 (T : Int) ∧ v = .int .i64 N ∧ XSt w wr ba bb a b gA gB ∧ Hid (Win N a b) ∧ Hid (a.LS (10 * T) (5 * T)) ∧ Hid (b.LS (10 * T) (5 * T)) ∧ (0 ≤ N ∧ N ≤ 3 * T)) (fun _ i _ => 300 - (intOf i).toNat)
  case atStart => exact ⟨0, _, _, _, _, 0, by omega, rfl, rfl, hXS7, Lib.hid (new_win fa fb), Lib.hid (newS_LS (by omega) HFA.out _ _), Lib.hid (newS_LS (by omega) HFB.out _ _), by omega⟩
  case round =>
    clear hXS7
    obtain ⟨T, a, b, gA, gB, N, hT, rfl, rfl, hX, HW, HLA, HLB, hN⟩ := hrel
    obtain ⟨wo, rfl⟩ : ∃ wo : World, wo = wr := ⟨_, rfl⟩
    by_cases hlt : T < 300
    · have hij : (T : Int) < 300 := by omega
      go_upto_if 31 with fail
      go_cut [9] (fun v wx => ∃ (a' : SD) (N' : Int), v = .int .i64 N' ∧ XSt w wx ba bb a' b gA gB ∧ Hid (Win N' a' b) ∧ Hid (a'.LS (10 * T) (5 * T)) ∧ (0 ≤ N' ∧ N' ≤ 3 * (T + 1)))
      case first =>
        by_cases hp : T < pushes.length
        · have hpi : decide ((T : Int) < (pushes.length : Int)) = true := by simp; omega
          have hpi' : (T : Int) < (pushes.length : Int) := by omega
          obtain ⟨b0, off, rfl, hc⟩ := (HZ.out.ext hX.ext).at2 (k := T) (by simpa using hp)
          have hc' : wo.cell? ⟨b0, off + T, none⟩ = some (.int .i64 pushes[T]) := by rw [hc]; simp [iv]
          generalize pushes[T] = pT at *
          clear hc
          go_wp2_with fail
          refine (Mod_any pT 4 wo (by omega) (by omega)).mono ?_
          rintro en wo' ⟨rfl, rfl⟩
          obtain ⟨k0, hk0⟩ : ∃ k0 : Nat, pT % 4 = k0 := ⟨(pT % 4).toNat, by omega⟩
          rw [hk0]
          have hk04 : k0 < 4 := by omega
          clear hk0 hc'
          go_wp2_with fail
          go_loopw [9, 11] (fun v i wr => ∃ (k : Nat) (a' : SD) (N' : Int), k ≤ 3 ∧ i = .int .i64 (k : Int) ∧ v = .int .i64 N' ∧ XSt w wr ba bb a' b gA gB ∧ Hid (Win N' a' b) ∧ Hid (a'.LS (10 * T) (5 * T)) ∧ (0 ≤ N' ∧ N' + k ≤ 3 * (T + 1))) (fun _ i _ => (intOf i).toNat)
          case atStart => exact ⟨k0, a, N, by omega, rfl, rfl, hX, HW, HLA, by omega⟩
          case round =>
            clear hX HW HLA
            obtain ⟨k, a', N', hk, rfl, rfl, hX, HW, HLA, hN'⟩ := hrel
            obtain ⟨wz, rfl⟩ : ∃ wz : World, wz = wr := ⟨_, rfl⟩
            by_cases hk0 : 0 < k
            · have hki : (0 : Int) < (k : Int) := by omega
              have hki' : decide ((0 : Int) < (k : Int)) = true := by simp; omega
              obtain ⟨Aq, cq, Af, fc, ftv, zs, hblk, hQ, hz, hfl, hbd, hft⟩ := hX.sa.ex
              have hld := sd_load hblk
              have hwk : IntKind.i64.wrap ((k : Int) - 1) = ((k - 1 : Nat) : Int) := by rw [IntKind.wrap_i64]; omega
              have hA8 := (Ext.refl wz).alloc (.cells #[.int .u8 1] 5)
              have hin : InB (wz.alloc (.cells #[.int .u8 1] 5)) (.slice (some ⟨wz.heap.size, 0, none⟩) 1 1) [1] := ⟨_, 1, rfl, Nat.le_refl _, Rd_blk (heap_alloc_new wz (.cells #[.int .u8 1] 5))⟩
              have hql : a'.e.queue.length < 1000 := by
                have h1 := HW.out.wa.all
                have h2 := HLA.out.e.cons.1
                omega
              have HBD := Lib.hid hbd
              have HZZ := Lib.hid hz
              clear hbd hz
              go_wp2_with first | refine wpList_load_run rfl 26 (.tmp 45) rfl _ _ rfl hld ?_
              refine (Push_own _ _ a'.e [1] _ ⟨_, rfl, (hQ.ext hA8).out⟩ HLA.out.e.tame.mid hin).mono ?_
              rintro en w9 ⟨y9, e9, er9, rfl, heq, hq9, hx9⟩
              rw [push_small _ hql [1] (by simp)] at heq
              have HE : Hid (a'.push [1] = a'.setE e9) := Lib.hid (by rw [SD.push, (Prod.mk.inj heq).1])
              clear heq
              obtain ⟨A9, c9, rfl, _⟩ := hq9.in_.form
              have hX9 := hX.extW (hA8.trans hx9)
              obtain ⟨w10, hst, hblk10, hg10⟩ := sd_store ((hA8.trans hx9).heap hblk) e9 A9 e9.queue.length c9
              clear hld
              go_wp2_with first | refine wpList_store_run rfl 26 (.tmp 52) (.tmp 49) rfl _ _ _ rfl rfl hst ?_
              have hkA : Kept w9.heap.size (xsOf ba bb gA gB) w9 w10 := XSt.keptA hg10
              have hXp : XSt w w10 ba bb (a'.setE e9) b gA gB :=
                hX9.upA hg10 rfl ⟨A9, c9, Af, fc, ftv, zs, hblk10, (((Fr.qOwn hq9).st (fun x hx => Nat.lt_of_lt_of_le (hX.lt x hx) hA8.size)).imp fun _ h => h.in_).mono hkA (fun y hy => .inl hy), HZZ.out, (hfl.ext (hA8.trans hx9)).mono hkA (fun y hy => .inl hy), fun z hz => ((HBD.out z hz).ext (hA8.trans hx9)).mono hkA (fun y hy => .inl hy), (hft.ext (hA8.trans hx9)).mono hkA (fun y hy => .inl hy)⟩
              rw [← HE.out] at hXp
              have hq1 : a'.e.acked + a'.e.queue.length < 1000 := by have := HW.out.wa.all; omega
              go_roundw
              case rel => exact ⟨k - 1, a'.push [1], N' + 1, by omega, by first | (with_reducible rfl) | go_num, by first | (with_reducible rfl) | go_num, hXp, Lib.hid (HW.out.push rfl), Lib.hid (HLA.out.push (by simp) hq1), by omega⟩
              case measure => simp [intOf]; omega
            · have hki : ¬ (0 : Int) < (k : Int) := by omega
              have hki' : decide ((0 : Int) < (k : Int)) = false := by simp; omega
              go_wp2_with fail
              go_meet
              exact ⟨a', N', rfl, hX, HW, HLA, by omega⟩
        · have hpi : decide ((T : Int) < (pushes.length : Int)) = false := by simp; omega
          go_wp2_with fail
          go_meet
          exact ⟨a, N, rfl, hX, HW, HLA, by omega⟩
      case rest =>
        clear hX HW HLA hN
        obtain ⟨a1, N1, rfl, hX, HW, HLA, hN⟩ := hcut
        go_wp2_with fail
        refine (exchange_any w ba bb a1 b gA gB (T : Int) (10 * T) (5 * T) wc hX HLA.out HLB.out (by omega) (by omega) (by omega)).mono ?_
        rintro en w9 ⟨v9, a2, b2, gA2, gB2, rfl, hex, hX2, hk9⟩
        have hW2 := HW.out.exch HLA.out HLB.out hex
        obtain ⟨hl1, hl2⟩ := HLA.out.exch HLB.out (by omega) hex
        have HW2 := Lib.hid hW2
        have HL1 := Lib.hid (hl1.more (m' := 10 * (T + 1)) (n' := 5 * (T + 1)) (by omega) (by omega))
        have HL2 := Lib.hid (hl2.more (m' := 10 * (T + 1)) (n' := 5 * (T + 1)) (by omega) (by omega))
        obtain ⟨Aq, cq, Af, fc, ftv, zs, hba, _⟩ := hX2.sa.ex
        obtain ⟨Bq, dq, Bf, fd, ftw, zt, hbb, _⟩ := hX2.sb.ex
        obtain ⟨GB, gc, hgb, _, _⟩ := hX2.ob.inV
        subst hgb
        obtain ⟨p0, p1, p2, p3, p4, p5, p6, p7⟩ := sd_ep hba
        obtain ⟨q0, q1, q2, q3, q4, q5, q6, q7⟩ := sd_ep hbb
        obtain ⟨_, _, _, q11, _⟩ := sd_at hbb
        have v1 := hW2.wa.win
        have v2 := hW2.wa.all
        have v3 := hl1.e.cons
        have v4 := hW2.low
        have v5 := hW2.high
        have v6 := hW2.wb.got
        have w1 : IntKind.i64.wrap (a2.e.sent - a2.e.acked) = a2.e.sent - a2.e.acked := by have := v3.1; have := v3.2.1; rw [IntKind.wrap_i64]; omega
        have w2 : IntKind.i64.wrap (a2.e.acked + (a2.e.queue.length : Int)) = a2.e.acked + a2.e.queue.length := by rw [IntKind.wrap_i64]; omega
        have t1 : decide (4 < a2.e.sent - a2.e.acked) = false := by simp; omega
        have t2 : decide (a2.e.sent < a2.e.acked) = false := by have := v3.2.1; simp; omega
        have t3 : (a2.e.acked + (a2.e.queue.length : Int) != N1) = false := by rw [v2]; simp
        have t4 : decide (b2.e.got < a2.e.acked) = false := by simp; omega
        have t5 : decide (N1 < b2.e.got) = false := by simp; omega
        have t6 : ((b2.got.length : Int) != b2.e.got) = false := by rw [v6]; simp
        clear hW2 hl1 hl2 hk9 hex v1 v2 v3 v4 v5 v6 HW HLA HLB hX
        go_upto_region 16 with fail
        refine wp_region_still_tail 75 (by kernel_rfl) (by kernel_rfl) ?_
        simp only [List.append_eq, List.cons_append, List.nil_append, List.take_succ_cons, List.take_zero, List.drop_succ_cons, List.drop_zero]
        iterate 75 still_step
        refine wpStill_nil ?_
        change wpList _ _ _ _ _ w9.drew
        have hXd := hX2.extW ((Ext.refl w9).drew)
        clear hba hbb p0 p1 p2 p3 p4 p5 p6 p7 q0 q1 q2 q3 q4 q5 q6 q7 q11 hX2
        generalize w9.drew = wd at *
        go_wp2_with fail
        go_roundw
        case rel => exact ⟨T + 1, a2, b2, gA2, .slice GB b2.got.length gc, N1, by omega, by first | (with_reducible rfl) | go_num, by first | (with_reducible rfl) | go_num, hXd, HW2, HL1, HL2, by omega⟩
        case measure => simp [intOf]; omega
    · obtain rfl : T = 300 := by omega
      go_wp2_with fail
      go_ret
      exact ⟨rfl, hX.ext⟩
end Go.Proofs.Ytnobepobalpccaa
