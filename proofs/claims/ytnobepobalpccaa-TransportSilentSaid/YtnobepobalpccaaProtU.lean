/- TransportSilent: the walk. -/
import Derived.Test.YtnobepobalpccaaProtS
import Derived.BigQuiet
namespace Go.Proofs.Ytnobepobalpccaa
open Go.RowKit
set_option linter.unusedVariables false

/-- what holds while messages are pushed ahead of all -/
structure Fresh (a b : SD) (P : List (List UInt8)) : Prop where
  two : Two P [] a b
  fit : Fit 0 a b
  la : a.LS 0 0
  lb : b.LS 0 0
  small : P.length ≤ 10
  flat : P.flatten.length = P.length
  new : a.e.peer = 0
theorem Fresh.push {a b : SD} {P : List (List UInt8)} (h : Fresh a b P) (c : UInt8) (hP : P.length < 10) : Fresh (a.push [c]) b (P ++ [[c]]) := by
  have h1 := h.two.fw.queue
  have h2 := h.two.fw.low
  have h3 := h.two.fw.gotn
  have h5 := h.flat
  refine ⟨h.two.push [c], ⟨⟨h.fit.ta.win, h.fit.ta.timer, h.fit.ta.lo, h.fit.ta.hi⟩, h.fit.tb, ⟨h.fit.ra.fates, h.fit.ra.sent⟩, h.fit.rb⟩, h.la.push (by simp) ?_, h.lb, by simp; omega, ?_, h.new⟩
  · rw [h1, List.length_drop]
    omega
  · have e : (P ++ [[c]]).flatten.length = P.flatten.length + 1 := by simp
    rw [e, h5]
    simp
/-- what holds at the head of the loop -/
structure SPl (T : Nat) (a b : SD) (P : List (List UInt8)) : Prop where
  two : Two P [] a b
  fit : Fit T a b
  la : a.LS (10 * T) (5 * T)
  lb : b.LS (10 * T) (5 * T)
  small : P.length ≤ 10
  hush : Hush P [] T a b
  loud : ¬ Quiet a b
theorem Fresh.start {a b : SD} {P : List (List UInt8)} (h : Fresh a b P) : SPl 0 a b P := by
  have hnd : ¬ Done a b := fun hd => hd.1 h.new
  exact ⟨h.two, h.fit, h.la, h.lb, h.small, .inl ⟨hnd, Prog.start h.two h.fit.ra h.fit.rb hnd⟩, fun hq => hnd hq.done⟩
theorem SPl.exch {T : Nat} {a b a' b' : SD} {P : List (List UInt8)} (h : SPl T a b P) (hT : T < 3000) (hx : Exch T a b a' b') (hl : ¬ Quiet a' b') : SPl (T + 1) a' b' P := by
  obtain ⟨l1, l2⟩ := h.la.exch h.lb (by omega) hx
  exact ⟨h.two.exch h.la h.lb hx, h.fit.exch (by omega) h.la h.lb hx, l1.more (by omega) (by omega), l2.more (by omega) (by omega), h.small, h.hush.step (by omega) h.two h.la h.lb h.fit hx, hl⟩
theorem SPl.short {T : Nat} {a b : SD} {P : List (List UInt8)} (h : SPl T a b P) : T < 3000 := by
  rcases Nat.lt_or_ge T 3000 with h1 | h1
  · exact h1
  · have h2 := h.small
    exact absurd (h.hush.end_ h.two h.fit (by simp; omega)) h.loud
set_option maxHeartbeats 40000000 in
set_option maxRecDepth 100000 in
theorem silent_walk (x y z : Value) (toA toB pushes : List Int) (w : World) (hx : InI w x toA) (hy : InI w y toB) (hz : InI w z pushes) :
    Calls Try.prog 5 #[x, y, z] w fun en w' => en = .returned (.bool true) ∧ Ext w w' := by
  obtain ⟨A1, c1, rfl, _, _⟩ := id hx
  obtain ⟨A2, c2, rfl, _, _⟩ := id hy
  obtain ⟨A3, c3, rfl, _, hr3⟩ := id hz
  go_enter Try.func5, Try.ntmps5
  go_wp2_with fail
  refine (New_any 1 w).mono ?_
  rintro en w1 ⟨rfl, hx1⟩
  go_wp2_with fail
  refine (Fates_any _ toB w1 (hy.ext hx1)).mono ?_
  rintro en w2 ⟨ya, za, rfl, hoa, hda, hla, hka, hx2⟩
  have hE2 := hx1.trans hx2
  obtain ⟨Ya, ca, rfl, _, _⟩ := hoa.inR
  go_upto_region 2 with fail
  have hBa := heap_alloc_new w2 (.cells #[.int .i64 1, .int .i64 0, .int .i64 0, .int .i64 0, .int .i64 0, .int .i64 0, .slice none 0 0, .bool false, .slice none 0 0, .slice Ya za.length ca, .int .i64 0, .slice none 0 0, .int .i64 0] 34)
  have hA3 := (Ext.refl w2).alloc (.cells #[.int .i64 1, .int .i64 0, .int .i64 0, .int .i64 0, .int .i64 0, .int .i64 0, .slice none 0 0, .bool false, .slice none 0 0, .slice Ya za.length ca, .int .i64 0, .slice none 0 0, .int .i64 0] 34)
  generalize w2.alloc (.cells #[.int .i64 1, .int .i64 0, .int .i64 0, .int .i64 0, .int .i64 0, .int .i64 0, .slice none 0 0, .bool false, .slice none 0 0, .slice Ya za.length ca, .int .i64 0, .slice none 0 0, .int .i64 0] 34) = w3 at *
  have hE3 := hE2.trans hA3
  have hlta := heap_lt hBa
  go_wp2_with fail
  refine (New_any 1 w3).mono ?_
  rintro en w4 ⟨rfl, hx4⟩
  go_wp2_with fail
  refine (Fates_any _ toA w4 (hx.ext (hE3.trans hx4))).mono ?_
  rintro en w5 ⟨yb, zb, rfl, hob, hdb, hlb, hkb, hx5⟩
  obtain ⟨Yb, cb, rfl, _, _⟩ := hob.inR
  have hX5 := hx4.trans hx5
  go_upto_region 3 with fail
  have hBb := heap_alloc_new w5 (.cells #[.int .i64 1, .int .i64 0, .int .i64 0, .int .i64 0, .int .i64 0, .int .i64 0, .slice none 0 0, .bool false, .slice none 0 0, .slice Yb zb.length cb, .int .i64 0, .slice none 0 0, .int .i64 0] 34)
  have hA6 := (Ext.refl w5).alloc (.cells #[.int .i64 1, .int .i64 0, .int .i64 0, .int .i64 0, .int .i64 0, .int .i64 0, .slice none 0 0, .bool false, .slice none 0 0, .slice Yb zb.length cb, .int .i64 0, .slice none 0 0, .int .i64 0] 34)
  generalize w5.alloc (.cells #[.int .i64 1, .int .i64 0, .int .i64 0, .int .i64 0, .int .i64 0, .int .i64 0, .slice none 0 0, .bool false, .slice none 0 0, .slice Yb zb.length cb, .int .i64 0, .slice none 0 0, .int .i64 0] 34) = w6 at *
  have hX6 := hX5.trans hA6
  have hE6 := hE3.trans hX6
  have hBa6 := hX6.heap hBa
  have hlab : w2.heap.size < w5.heap.size := Nat.lt_of_lt_of_le hlta hX5.size
  have hlab4 : w2.heap.size < w4.heap.size := Nat.lt_of_lt_of_le hlta hx4.size
  have hXS : XSt [] w w6 w2.heap.size w5.heap.size (newS 1 (za.map Prod.fst)) (newS 1 (zb.map Prod.fst)) (.slice none 0 0) (.slice none 0 0) :=
    XSt.begin hoa hda hob hdb hBa6 hBb (hA3.trans hX6) hA6 hlab hlab4 hE2.size hE6
  have HFR : Hid (Fresh (newS 1 (za.map Prod.fst)) (newS 1 (zb.map Prod.fst)) []) := Lib.hid (by
    have h := DPl.new (n := 1) (m := 1) (by omega) (by omega) (fa := za.map Prod.fst) (fb := zb.map Prod.fst) (by simpa using hla) (by simpa using hlb) (fun f hf => by obtain ⟨z, hz, rfl⟩ := List.mem_map.1 hf; exact hka z hz) (fun f hf => by obtain ⟨z, hz, rfl⟩ := List.mem_map.1 hf; exact hkb z hz)
    exact ⟨h.two, h.fit, h.la, h.lb, by simp, by simp, rfl⟩)
  have HZ := Lib.hid hr3
  clear hBa hA3 hE3 hoa hda hla hka hob hdb hlb hkb hX5 hA6 hX6 hBa6 hBb hx1 hx2 hx4 hx5 hE2 hE6 hlta hlab4 hr3 hx hy hz
  generalize w2.heap.size = ba at *
  generalize w5.heap.size = bb at *
  generalize newS 1 (za.map Prod.fst) = a0 at *
  generalize newS 1 (zb.map Prod.fst) = b0 at *
  go_wp2_with fail
  refine (awake35_any w6).mono ?_
  rintro en w7 ⟨rfl, hx7⟩
  have hXS7 := hXS.extW hx7
  clear hXS
  go_wp2_with fail
  go_loopw [9] (fun i wr => ∃ (a : SD) (P : List (List UInt8)) (j : Nat), i = .int .i64 (j : Int) ∧ j = P.length ∧ j ≤ 10 ∧ j ≤ pushes.length ∧ XSt [] w wr ba bb a b0 (.slice none 0 0) (.slice none 0 0) ∧ Hid (Fresh a b0 P)) (fun i _ => 10 - (intOf i).toNat)
  case atStart => exact ⟨a0, [], 0, rfl, rfl, by omega, by omega, hXS7, HFR⟩
  case round =>
    clear hXS7 HFR
    obtain ⟨a, P, j, rfl, hjP, hj10, hjp, hX, HFR⟩ := hrel
    obtain ⟨wo, rfl⟩ : ∃ wo : World, wo = wr := ⟨_, rfl⟩
    have HJP := Lib.hid hjP
    clear hjP
    by_cases hin : j < pushes.length ∧ j < 10
    · obtain ⟨h1, h2⟩ := hin
      have d1 : decide ((j : Int) < (pushes.length : Int)) = true := by simp; omega
      have d2 : decide ((j : Int) < 10) = true := by simp; omega
      obtain ⟨n8, hn8⟩ : ∃ n8 : UInt8, (n8.toNat : Int) = j := ⟨UInt8.ofNat j, by simp; omega⟩
      have hc8 : Value.int .u8 (j : Int) = bv n8 := by rw [← hn8]; rfl
      have HC8 := Lib.hid hc8
      clear hc8 hn8
      obtain ⟨Aq, cq, Af, fc, ftv, zs, hblk, hQ, hz, hfl, hbd, hft⟩ := hX.sa.ex
      have hld := sd_load hblk
      have hA8 := (Ext.refl wo).alloc (.cells #[.int .u8 (j : Int)] 5)
      have hin : InB (wo.alloc (.cells #[.int .u8 (j : Int)] 5)) (.slice (some ⟨wo.heap.size, 0, none⟩) 1 1) [n8] := by
        rw [HC8.out]
        exact ⟨_, 1, rfl, Nat.le_refl _, Rd_blk (heap_alloc_new wo (.cells #[bv n8] 5))⟩
      have hql : a.e.queue.length < 1000 := by
        have h1 := HFR.out.two.fw.queue
        have h2 := HFR.out.small
        rw [h1, List.length_drop]
        omega
      have HBD := Lib.hid hbd
      have HZZ := Lib.hid hz
      clear hbd hz
      go_wp2_with first | refine wpList_load_run rfl 26 (.tmp 40) rfl _ _ rfl hld ?_
      refine (Push_own _ _ a.e [n8] _ ⟨_, rfl, (hQ.ext hA8).out⟩ HFR.out.la.e.tame.mid hin).mono ?_
      rintro en w9 ⟨y9, e9, er9, rfl, heq, hq9, hx9⟩
      rw [push_small _ hql [n8] (by simp)] at heq
      have HE : Hid (a.push [n8] = a.setE e9) := Lib.hid (by rw [SD.push, (Prod.mk.inj heq).1])
      clear heq
      obtain ⟨A9, c9, rfl, _⟩ := hq9.in_.form
      have hX9 := hX.extW (hA8.trans hx9)
      obtain ⟨w10, hst, hblk10, hg10⟩ := sd_store ((hA8.trans hx9).heap hblk) e9 A9 e9.queue.length c9
      clear hld
      go_wp2_with first | refine wpList_store_run rfl 26 (.tmp 49) (.tmp 46) rfl _ _ _ rfl rfl hst ?_
      have hkA : Kept w9.heap.size (xsOf [] ba bb (.slice none 0 0) (.slice none 0 0)) w9 w10 := XSt.keptA hg10
      have hXp : XSt [] w w10 ba bb (a.setE e9) b0 (.slice none 0 0) (.slice none 0 0) :=
        hX9.upA hg10 rfl ⟨A9, c9, Af, fc, ftv, zs, hblk10, (((Fr.qOwn hq9).st (fun x hx => Nat.lt_of_lt_of_le (hX.lt x hx) hA8.size)).imp fun _ h => h.in_).mono hkA (fun y hy => .inl hy), HZZ.out, (hfl.ext (hA8.trans hx9)).mono hkA (fun y hy => .inl hy), fun z hz => ((HBD.out z hz).ext (hA8.trans hx9)).mono hkA (fun y hy => .inl hy), (hft.ext (hA8.trans hx9)).mono hkA (fun y hy => .inl hy)⟩
      rw [← HE.out] at hXp
      go_roundw
      case rel => exact ⟨a.push [n8], P ++ [[n8]], j + 1, by first | (with_reducible rfl) | go_num, by rw [HJP.out]; simp, by omega, by omega, hXp, Lib.hid (HFR.out.push n8 (by rw [← HJP.out]; omega))⟩
      case measure => simp [intOf]; omega
    · have HPJ : Hid (P.flatten.length = min pushes.length 10) := Lib.hid (by rw [HFR.out.flat, ← HJP.out]; omega)
      go_upto_region 6 with fail
      go_cut [33] (fun s wx => s = .bool false ∧ wx = wo)
      case first =>
        by_cases h1 : j < pushes.length
        · have d1 : decide ((j : Int) < (pushes.length : Int)) = true := by simp; omega
          have d2 : decide ((j : Int) < 10) = false := by simp; omega
          go_wp2_with fail
          go_meet
          exact ⟨rfl, rfl⟩
        · have d1 : decide ((j : Int) < (pushes.length : Int)) = false := by simp; omega
          go_wp2_with fail
          go_meet
          exact ⟨rfl, rfl⟩
      obtain ⟨rfl, rfl⟩ := hcut
      clear hin
      have HS0 := Lib.hid HFR.out.start
      clear HFR HJP hj10 hjp
      go_wp2_with fail
      go_loopw [10] (fun i wr => ∃ (T : Nat) (a b : SD) (gA gB : Value), i = .int .i64 (T : Int) ∧ T < 3000 ∧ XSt [] w wr ba bb a b gA gB ∧ Hid (SPl T a b P)) (fun i _ => 3000 - (intOf i).toNat)
      case atStart => exact ⟨0, a, b0, _, _, rfl, by omega, hX, HS0⟩
      case round =>
        clear hX HS0
        obtain ⟨T, a, b, gA, gB, rfl, hlt, hX, HS⟩ := hrel
        obtain ⟨wo, rfl⟩ : ∃ wo : World, wo = wr := ⟨_, rfl⟩
        have hij : (T : Int) < 3000 := by omega
        go_wp2_with fail
        refine (exchange_any _ w ba bb a b gA gB (T : Int) (10 * T) (5 * T) wo hX HS.out.la HS.out.lb (by omega) (by omega) (by omega)).mono ?_
        rintro en w9 ⟨v9, a2, b2, gA2, gB2, rfl, hex, hX2, _, _, _⟩
        have HEX := Lib.hid hex
        have HL12 := Lib.hid (HS.out.la.exch HS.out.lb (by omega) hex)
        have HT2 := Lib.hid (HS.out.two.exch HS.out.la HS.out.lb hex)
        have hfl : a2.fl.length ≤ 100000 ∧ b2.fl.length ≤ 100000 := by
          have h1 := HL12.out.1.few
          have h2 := HL12.out.2.few
          omega
        clear hex hX
        go_upto_region 13 with fail
        go_cut [110] (fun s wx => ∃ d : Bool, s = .bool d ∧ (d = true ↔ Quiet a2 b2) ∧ Ext w9 wx)
        case first =>
          obtain ⟨Aq, cq, Af, fc, ftv, zs, hba, _⟩ := hX2.sa.ex
          obtain ⟨Bq, dq, Bf, fd, ftw, zt, hbb, _⟩ := hX2.sb.ex
          obtain ⟨p0, p1, p2, p3, p4, p5, p6, p7⟩ := sd_ep hba
          obtain ⟨q0, q1, q2, q3, q4, q5, q6, q7⟩ := sd_ep hbb
          obtain ⟨p8, _, _, _, _⟩ := sd_at hba
          obtain ⟨q8, _, _, _, _⟩ := sd_at hbb
          have HQB : Hid (b2.e.queue = []) := Lib.hid (by rw [HT2.out.fro.queue]; simp)
          have ws : IntKind.i64.wrap ((a2.fl.length : Int) + (b2.fl.length : Int)) = (a2.fl.length : Int) + (b2.fl.length : Int) := by rw [IntKind.wrap_i64]; omega
          clear hba hbb p0 p2 p3 p4 p5 q0 q2 q3 q4 q5 q6 HS HEX HT2 HL12 hX2
          by_cases hpa : a2.e.peer = 0
          · have t1 : (a2.e.peer != 0) = false := by simp [hpa]
            have HPA := Lib.hid hpa
            clear hpa
            go_quiet (fail)
            go_wp2_with fail
            go_meet
            exact ⟨false, rfl, ⟨fun h => (by cases h), fun h => absurd HPA.out h.done.1⟩, (Ext.refl w9).drewN _⟩
          have t1 : (a2.e.peer != 0) = true := by simp [hpa]
          have HPA := Lib.hid hpa
          clear hpa
          by_cases hpb : b2.e.peer = 0
          · have t2 : (b2.e.peer != 0) = false := by simp [hpb]
            have HPB := Lib.hid hpb
            clear hpb
            go_quiet (fail)
            go_wp2_with fail
            go_meet
            exact ⟨false, rfl, ⟨fun h => (by cases h), fun h => absurd HPB.out h.done.2.1⟩, (Ext.refl w9).drewN _⟩
          have t2 : (b2.e.peer != 0) = true := by simp [hpb]
          have HPB := Lib.hid hpb
          clear hpb
          by_cases hq : a2.e.queue.length = 0
          case neg =>
            have t3 : ((a2.e.queue.length : Int) == 0) = false := by rw [beq_eq_false_iff_ne]; omega
            have HQ := Lib.hid hq
            clear hq
            go_quiet (fail)
            go_wp2_with fail
            go_meet
            exact ⟨false, rfl, ⟨fun h => (by cases h), fun h => absurd (by rw [h.done.2.2.1]; rfl) HQ.out⟩, (Ext.refl w9).drewN _⟩
          have t3 : ((a2.e.queue.length : Int) == 0) = true := by rw [beq_iff_eq]; omega
          have HQ := Lib.hid hq
          clear hq
          by_cases hf : a2.fl.length + b2.fl.length = 0
          case neg =>
            have t4 : ((a2.fl.length : Int) + (b2.fl.length : Int) == 0) = false := by rw [beq_eq_false_iff_ne]; omega
            have HFF := Lib.hid hf
            clear hf
            go_quiet (fail)
            go_wp2_with fail
            go_meet
            exact ⟨false, rfl, ⟨fun h => (by cases h), fun h => absurd (by rw [h.fa, h.fb]; rfl) HFF.out⟩, (Ext.refl w9).drewN _⟩
          have t4 : ((a2.fl.length : Int) + (b2.fl.length : Int) == 0) = true := by rw [beq_iff_eq]; omega
          have HFF := Lib.hid hf
          clear hf
          cases hoa : a2.e.owe with
          | true =>
            rw [hoa] at p7
            have HOA := Lib.hid hoa
            clear hoa
            go_quiet (fail)
            go_wp2_with fail
            go_meet
            exact ⟨false, rfl, ⟨fun h => (by cases h), fun h => (by have := h.oa; rw [HOA.out] at this; cases this)⟩, (Ext.refl w9).drewN _⟩
          | false =>
            rw [hoa] at p7
            have HOA := Lib.hid hoa
            clear hoa
            cases hob : b2.e.owe with
            | true =>
              rw [hob] at q7
              have HOB := Lib.hid hob
              clear hob
              go_quiet (fail)
              go_wp2_with fail
              go_meet
              exact ⟨false, rfl, ⟨fun h => (by cases h), fun h => (by have := h.ob; rw [HOB.out] at this; cases this)⟩, (Ext.refl w9).drewN _⟩
            | false =>
              rw [hob] at q7
              have HOB := Lib.hid hob
              clear hob
              go_quiet (fail)
              go_wp2_with fail
              go_meet
              exact ⟨true, rfl, ⟨fun _ => ⟨⟨HPA.out, HPB.out, List.length_eq_zero_iff.1 HQ.out, HQB.out⟩, List.length_eq_zero_iff.1 (by have := HFF.out; omega), List.length_eq_zero_iff.1 (by have := HFF.out; omega), HOA.out, HOB.out⟩, fun _ => rfl⟩, (Ext.refl w9).drewN _⟩
        case rest =>
          obtain ⟨d, rfl, hd, hxc⟩ := hcut
          have hX3 := hX2.extW hxc
          clear hX2 hxc
          cases d with
          | false =>
            have HS2 : Hid (SPl (T + 1) a2 b2 P) := Lib.hid (HS.out.exch hlt HEX.out (fun h => by have := hd.2 h; cases this))
            have hT1 := HS2.out.short
            go_wp2_with fail
            go_roundw
            case rel => exact ⟨T + 1, a2, b2, gA2, gB2, by first | (with_reducible rfl) | go_num, hT1, hX3, HS2⟩
            case measure => simp [intOf]; omega
          | true =>
            have HQ := Lib.hid (hd.1 rfl)
            have HGB : Hid (b2.got.length = min pushes.length 10) := Lib.hid (by rw [HT2.out.fw.done HQ.out.done.2.2.1]; exact HPJ.out)
            have hcA := HL12.out.1.e.cons
            have hsA := HL12.out.1.sent
            have HCA := Lib.hid HL12.out.1.e.cons
            have HCB := Lib.hid HL12.out.2.e.cons
            have HLA := Lib.hid HL12.out.1
            have HLB := Lib.hid HL12.out.2
            clear hd HS HEX HT2 HL12 hcA hsA
            obtain ⟨Aq, cq, Af, fc, ftv, zs, hba, _⟩ := hX3.sa.ex
            obtain ⟨Bq, dq, Bf, fd, ftw, zt, hbb, _⟩ := hX3.sb.ex
            obtain ⟨_, _, a10, _, _⟩ := sd_at hba
            obtain ⟨_, _, b10, _, _⟩ := sd_at hbb
            clear hba hbb
            go_upto_region 14 with fail
            go_quiet (fail)
            have hX4 := hX3.extW ((Ext.refl wc).drewN nq)
            clear hX3 a10 b10
            generalize wc.drewN nq = wd at *
            go_wp2_with fail
            have hw100 : IntKind.i64.wrap ((T : Int) + 100) = ((T + 100 : Nat) : Int) := by rw [IntKind.wrap_i64]; omega
            go_wp2_with fail
            go_loopw [10] (fun i wr => ∃ (j : Nat) (gA gB : Value), i = .int .i64 ((T + j : Nat) : Int) ∧ j ≤ 100 ∧ XSt [] w wr ba bb a2 b2 gA gB) (fun i _ => T + 100 - (intOf i).toNat)
            case atStart => exact ⟨0, gA2, gB2, rfl, by omega, hX4⟩
            case round =>
              clear hX4
              obtain ⟨j, gC, gD, rfl, hj, hX⟩ := hrel
              obtain ⟨wo, rfl⟩ : ∃ wo : World, wo = wr := ⟨_, rfl⟩
              by_cases hj1 : j < 100
              · have hij : ((T + j : Nat) : Int) < ((T + 100 : Nat) : Int) := by omega
                have hw1 : IntKind.i64.wrap (((T + j : Nat) : Int) + 1) = ((T + j + 1 : Nat) : Int) := by rw [IntKind.wrap_i64]; omega
                go_wp2_with fail
                refine (exchange_any _ w ba bb a2 b2 gC gD ((T + j + 1 : Nat) : Int) _ _ wo hX HLA.out HLB.out (by omega) (by omega) (by omega)).mono ?_
                rintro en w12 ⟨v12, a3, b3, gE, gF, rfl, hex, hX5, _, _, _⟩
                obtain ⟨rfl, rfl⟩ := HQ.out.exch HCA.out HCB.out hex
                clear hX hex
                go_wp2_with fail
                go_roundw
                case rel => exact ⟨j + 1, gE, gF, by first | (with_reducible rfl) | go_num, by omega, hX5⟩
                case measure => simp [intOf]; omega
              · obtain rfl : j = 100 := by omega
                obtain ⟨Aq, cq, Af, fc, ftv, zs, hba, _⟩ := hX.sa.ex
                obtain ⟨Bq, dq, Bf, fd, ftw, zt, hbb, _⟩ := hX.sb.ex
                obtain ⟨_, _, a10, _, _⟩ := sd_at hba
                obtain ⟨_, _, b10, b11, _⟩ := sd_at hbb
                obtain ⟨GB, gb, hgb, _, _⟩ := hX.ob.inV
                obtain ⟨K, hK⟩ : ∃ K, K = b2.got.length := ⟨_, rfl⟩
                have hKm : K = min pushes.length 10 := hK.trans HGB.out
                rw [← hK] at hgb
                subst hgb
                have e1 : (a2.sent == a2.sent) = true := by simp
                have e2 : (b2.sent == b2.sent) = true := by simp
                have e3 : ((K : Int) == min (pushes.length : Int) 10) = true := by rw [beq_iff_eq, hKm]; omega
                have hext := hX.ext
                clear hba hbb hX hK hKm
                go_wp2_with fail
                go_ret
                exact ⟨rfl, hext⟩
end Go.Proofs.Ytnobepobalpccaa
