/- TransportDelivers: the walk. -/
import Derived.Test.YtnobepobalpccaaProtS
import Derived.BigQuiet
namespace Go.Proofs.Ytnobepobalpccaa
open Go.RowKit
set_option linter.unusedVariables false

set_option maxHeartbeats 40000000 in
set_option maxRecDepth 100000 in
theorem delivers_walk (x y z : Value) (toA toB pushes : List Int) (ep ot : Int) (w : World) (hx : InI w x toA) (hy : InI w y toB) (hz : InI w z pushes) :
    Calls Try.prog 3 #[x, y, z, .int .i64 ep, .int .i64 ot] w fun en w' => en = .returned (.bool true) ∧ Ext w w' := by
  obtain ⟨A1, c1, rfl, _, _⟩ := id hx
  obtain ⟨A2, c2, rfl, _, _⟩ := id hy
  obtain ⟨A3, c3, rfl, _, hr3⟩ := id hz
  go_enter Try.func3, Try.ntmps3
  go_wp2_with fail
  refine (Mod_any ep 9 w (by omega) (by omega)).mono ?_
  rintro en wm ⟨rfl, rfl⟩
  obtain ⟨n0, hn0, hnr⟩ : ∃ n0 : Int, IntKind.i64.wrap (1 + ep % 9) = n0 ∧ 1 ≤ n0 ∧ n0 ≤ 20 := ⟨1 + ep % 9, by rw [IntKind.wrap_i64]; omega, by omega, by omega⟩
  go_wp2_with fail
  refine (New_any n0 w).mono ?_
  rintro en w1 ⟨rfl, hx1⟩
  go_wp2_with fail
  refine (Fates_any _ toB w1 (hy.ext hx1)).mono ?_
  rintro en w2 ⟨ya, za, rfl, hoa, hda, hla, hka, hx2⟩
  have hE2 := hx1.trans hx2
  obtain ⟨Ya, ca, rfl, _, _⟩ := hoa.inR
  go_upto_region 2 with fail
  have hBa := heap_alloc_new w2 (.cells #[.int .i64 n0, .int .i64 0, .int .i64 0, .int .i64 0, .int .i64 0, .int .i64 0, .slice none 0 0, .bool false, .slice none 0 0, .slice Ya za.length ca, .int .i64 0, .slice none 0 0, .int .i64 0] 34)
  have hA3 := (Ext.refl w2).alloc (.cells #[.int .i64 n0, .int .i64 0, .int .i64 0, .int .i64 0, .int .i64 0, .int .i64 0, .slice none 0 0, .bool false, .slice none 0 0, .slice Ya za.length ca, .int .i64 0, .slice none 0 0, .int .i64 0] 34)
  generalize w2.alloc (.cells #[.int .i64 n0, .int .i64 0, .int .i64 0, .int .i64 0, .int .i64 0, .int .i64 0, .slice none 0 0, .bool false, .slice none 0 0, .slice Ya za.length ca, .int .i64 0, .slice none 0 0, .int .i64 0] 34) = w3 at *
  have hE3 := hE2.trans hA3
  have hlta := heap_lt hBa
  go_wp2_with fail
  refine (Mod_any ot 9 w3 (by omega) (by omega)).mono ?_
  rintro en wm ⟨rfl, rfl⟩
  obtain ⟨m0, hm0, hmr⟩ : ∃ m0 : Int, IntKind.i64.wrap (1 + ot % 9) = m0 ∧ 1 ≤ m0 ∧ m0 ≤ 20 := ⟨1 + ot % 9, by rw [IntKind.wrap_i64]; omega, by omega, by omega⟩
  go_wp2_with fail
  refine (New_any m0 w3).mono ?_
  rintro en w4 ⟨rfl, hx4⟩
  go_wp2_with fail
  refine (Fates_any _ toA w4 (hx.ext (hE3.trans hx4))).mono ?_
  rintro en w5 ⟨yb, zb, rfl, hob, hdb, hlb, hkb, hx5⟩
  obtain ⟨Yb, cb, rfl, _, _⟩ := hob.inR
  have hX5 := hx4.trans hx5
  go_upto_region 3 with fail
  have hBb := heap_alloc_new w5 (.cells #[.int .i64 m0, .int .i64 0, .int .i64 0, .int .i64 0, .int .i64 0, .int .i64 0, .slice none 0 0, .bool false, .slice none 0 0, .slice Yb zb.length cb, .int .i64 0, .slice none 0 0, .int .i64 0] 34)
  have hA6 := (Ext.refl w5).alloc (.cells #[.int .i64 m0, .int .i64 0, .int .i64 0, .int .i64 0, .int .i64 0, .int .i64 0, .slice none 0 0, .bool false, .slice none 0 0, .slice Yb zb.length cb, .int .i64 0, .slice none 0 0, .int .i64 0] 34)
  generalize w5.alloc (.cells #[.int .i64 m0, .int .i64 0, .int .i64 0, .int .i64 0, .int .i64 0, .int .i64 0, .slice none 0 0, .bool false, .slice none 0 0, .slice Yb zb.length cb, .int .i64 0, .slice none 0 0, .int .i64 0] 34) = w6 at *
  have hX6 := hX5.trans hA6
  have hE6 := hE3.trans hX6
  have hBa6 := hX6.heap hBa
  have hlab : w2.heap.size < w5.heap.size := Nat.lt_of_lt_of_le hlta hX5.size
  have hlab4 : w2.heap.size < w4.heap.size := Nat.lt_of_lt_of_le hlta hx4.size
  have hXS : XSt [] w w6 w2.heap.size w5.heap.size (newS n0 (za.map Prod.fst)) (newS m0 (zb.map Prod.fst)) (.slice none 0 0) (.slice none 0 0) :=
    XSt.begin hoa hda hob hdb hBa6 hBb (hA3.trans hX6) hA6 hlab hlab4 hE2.size hE6
  have HPL : Hid (DPl 0 0 (newS n0 (za.map Prod.fst)) (newS m0 (zb.map Prod.fst)) [] []) := Lib.hid (DPl.new hnr hmr (by simpa using hla) (by simpa using hlb) (fun f hf => by obtain ⟨z, hz, rfl⟩ := List.mem_map.1 hf; exact hka z hz) (fun f hf => by obtain ⟨z, hz, rfl⟩ := List.mem_map.1 hf; exact hkb z hz))
  have HZ := Lib.hid hr3
  clear hBa hA3 hE3 hoa hda hla hka hob hdb hlb hkb hX5 hA6 hX6 hBa6 hBb hx1 hx2 hx4 hx5 hE2 hE6 hlta hlab4 hr3 hx hy hz hn0 hm0
  generalize w2.heap.size = ba at *
  generalize w5.heap.size = bb at *
  generalize newS n0 (za.map Prod.fst) = a0 at *
  generalize newS m0 (zb.map Prod.fst) = b0 at *
  clear hnr hmr
  go_wp2_with fail
  refine (awake35_any w6).mono ?_
  rintro en w7 ⟨rfl, hx7⟩
  have hXS7 := hXS.extW hx7
  clear hXS
  have hDS : DSt w w7 ba bb a0 b0 (.slice none 0 0) (.slice none 0 0) (.slice none 0 0) (.slice none 0 0) [] [] := ⟨hXS7, OwnV.nil _, OwnV.nil _, fun k h => by cases h⟩
  clear hXS7
  go_wp2_with fail
  go_loopw [13, 14, 15] (fun vA vB i wr => ∃ (T : Nat) (a b : SD) (gA gB : Value) (P Q : List (List UInt8)), i = .int .i64 (T : Int) ∧ T < 3000 ∧ DSt w wr ba bb a b gA gB vA vB Q.flatten P.flatten ∧ Hid (DPl T (min T 40) a b P Q)) (fun _ _ i _ => 3000 - (intOf i).toNat)
  case atStart => exact ⟨0, _, _, _, _, [], [], rfl, by omega, hDS, HPL⟩
  case round =>
    clear hDS HPL
    obtain ⟨T, a, b, gA, gB, P, Q, rfl, hlt, hD, HP⟩ := hrel
    obtain ⟨wo, rfl⟩ : ∃ wo : World, wo = wr := ⟨_, rfl⟩
    have hij : (T : Int) < 3000 := by omega
    obtain ⟨VA, cA, hvA, _, _⟩ := hD.oa.inV
    obtain ⟨VB, cB, hvB, _, _⟩ := hD.ob.inV
    obtain ⟨NA, hNA⟩ : ∃ NA, NA = Q.flatten.length := ⟨_, rfl⟩
    obtain ⟨NB, hNB⟩ : ∃ NB, NB = P.flatten.length := ⟨_, rfl⟩
    rw [← hNA] at hvA
    rw [← hNB] at hvB
    subst hvA
    subst hvB
    have hNAl := HP.out.lenQ
    have hNBl := HP.out.lenP
    rw [← hNA] at hNAl
    rw [← hNB] at hNBl
    have HNA := Lib.hid hNA
    have HNB := Lib.hid hNB
    clear hNA hNB
    go_upto_region 9 with fail
    go_cut [46] (fun s wx => ∃ d : Bool, s = .bool d ∧ (d = true ↔ T < pushes.length ∧ T < 40) ∧ wx = wo)
    case first =>
      by_cases hp : T < pushes.length
      · have hpi : decide ((T : Int) < (pushes.length : Int)) = true := by simp; omega
        by_cases h40 : T < 40
        · have hpj : decide ((T : Int) < 40) = true := by simp; omega
          go_wp2_with fail
          go_meet
          exact ⟨true, rfl, by simp [hp, h40], rfl⟩
        · have hpj : decide ((T : Int) < 40) = false := by simp; omega
          go_wp2_with fail
          go_meet
          exact ⟨false, rfl, by simp [h40], rfl⟩
      · have hpi : decide ((T : Int) < (pushes.length : Int)) = false := by simp; omega
        go_wp2_with fail
        go_meet
        exact ⟨false, rfl, by simp [hp], rfl⟩
    obtain ⟨d0, rfl, hd0, rfl⟩ := hcut
    go_upto_if 46 with fail
    go_cut [13, 14] (fun vA vB wx => ∃ (a' b' : SD) (P' Q' : List (List UInt8)), DSt w wx ba bb a' b' gA gB vA vB Q'.flatten P'.flatten ∧ Hid (DPl T (min (T + 1) 40) a' b' P' Q'))
    case first =>
      cases d0 with
      | false =>
        go_wp2_with fail
        go_meet
        exact ⟨a, b, P, Q, hD, Lib.hid (HP.out.more (by omega))⟩
      | true =>
        obtain ⟨hp, h40⟩ := hd0.1 rfl
        obtain ⟨b0, off, rfl, hc⟩ := HZ.out.at2 (k := T) (by simpa using hp)
        have hcw : w.cell? ⟨b0, off + T, none⟩ = some (.int .i64 pushes[T]) := by rw [hc]; simp [iv]
        have HCW := Lib.hid hcw
        have hc' := hD.x.ext.cell hcw
        clear hcw
        have hpi' : (T : Int) < (pushes.length : Int) := by omega
        generalize pushes[T] = pT at *
        clear hc
        obtain ⟨n8, hn8⟩ : ∃ n8 : UInt8, (n8.toNat : Int) = T := ⟨UInt8.ofNat T, by simp; omega⟩
        have hc8 : Value.int .u8 (T : Int) = bv n8 := by rw [← hn8]; rfl
        have HC8 := Lib.hid hc8
        have hm40 : min T 40 = T := by omega
        rw [hm40] at HP hNAl hNBl
        clear hc8 hn8 hm40 hd0
        go_upto_if 54 with fail
        go_cut [14] (fun vB wx => ∃ (a' : SD) (P' : List (List UInt8)) (N : Nat), N ≤ T + 1 ∧ (N = T ∨ pT.tmod 3 = 0) ∧ DSt w wx ba bb a' b gA gB (.slice VA NA cA) vB Q.flatten P'.flatten ∧ Hid (DPl T N a' b P' Q))
        case first =>
          by_cases h0 : pT.tmod 3 = 0
          · have e0 : (pT.tmod 3 == 0) = true := by simp [h0]
            obtain ⟨Aq, cq, Af, fc, ftv, zs, hblk, hQ, hz, hfl, hbd, hft⟩ := hD.x.sa.ex
            have hld := sd_load hblk
            have hA8 := (Ext.refl wc).alloc (.cells #[.int .u8 (T : Int)] 5)
            have hin : InB (wc.alloc (.cells #[.int .u8 (T : Int)] 5)) (.slice (some ⟨wc.heap.size, 0, none⟩) 1 1) [n8] := by
              rw [HC8.out]
              exact ⟨_, 1, rfl, Nat.le_refl _, Rd_blk (heap_alloc_new wc (.cells #[bv n8] 5))⟩
            have hql : a.e.queue.length < 1000 := by
              have h1 := HP.out.two.fw.queue
              have h2 := HP.out.count
              rw [h1, List.length_drop]
              omega
            have HBD := Lib.hid hbd
            have HZZ := Lib.hid hz
            clear hbd hz
            go_wp2_with first | refine wpList_load_run rfl 26 (.tmp 59) rfl _ _ rfl hld ?_
            refine (Push_own _ _ a.e [n8] _ ⟨_, rfl, (hQ.ext hA8).out⟩ HP.out.la.e.tame.mid hin).mono ?_
            rintro en w9 ⟨y9, e9, er9, rfl, heq, hq9, hx9⟩
            rw [push_small _ hql [n8] (by simp)] at heq
            have HE : Hid (a.push [n8] = a.setE e9) := Lib.hid (by rw [SD.push, (Prod.mk.inj heq).1])
            clear heq
            obtain ⟨A9, c9, rfl, _⟩ := hq9.in_.form
            have hD9 := hD.extW (hA8.trans hx9)
            obtain ⟨w10, hst, hblk10, hg10⟩ := sd_store ((hA8.trans hx9).heap hblk) e9 A9 e9.queue.length c9
            clear hld
            go_upto_region 13 with first | refine wpList_store_run rfl 26 (.tmp 67) (.tmp 64) rfl _ _ _ rfl rfl hst ?_
            have hkA : Kept w9.heap.size (xsOf (bes (.slice VA NA cA) (.slice VB NB cB)) ba bb gA gB) w9 w10 := XSt.keptA hg10
            have hXp : XSt (bes (.slice VA NA cA) (.slice VB NB cB)) w w10 ba bb (a.setE e9) b gA gB :=
              hD9.x.upA hg10 rfl ⟨A9, c9, Af, fc, ftv, zs, hblk10, (((Fr.qOwn hq9).st (fun x hx => Nat.lt_of_lt_of_le (hD.x.lt x hx) hA8.size)).imp fun _ h => h.in_).mono hkA (fun y hy => .inl hy), HZZ.out, (hfl.ext (hA8.trans hx9)).mono hkA (fun y hy => .inl hy), fun z hz => ((HBD.out z hz).ext (hA8.trans hx9)).mono hkA (fun y hy => .inl hy), (hft.ext (hA8.trans hx9)).mono hkA (fun y hy => .inl hy)⟩
            rw [← HE.out] at hXp
            have hD10 := hD9.put hg10 hXp
            clear hD hD9 hXp hkA hst hblk10 hg10 hblk hQ hfl hft hA8 hin hq9 hx9
            have hA11 := (Ext.refl w10).alloc (.cells #[.int .u8 (T : Int)] 5)
            have hin2 : InB (w10.alloc (.cells #[.int .u8 (T : Int)] 5)) (.slice (some ⟨w10.heap.size, 0, none⟩) 1 1) [n8] := by
              rw [HC8.out]
              exact ⟨_, 1, rfl, Nat.le_refl _, Rd_blk (heap_alloc_new w10 (.cells #[bv n8] 5))⟩
            have hsz := (hD10.x.ext.trans hA11).size
            go_wp2_with (at_builtin; go_must (refine wpList_appendV elem_u8 (fun _ => rfl) rfl (.tmp 68) (.tmp 70) rfl w.heap.size _ P.flatten rfl (hD10.ob.ext hA11) _ [n8] rfl hin2 (by have := HNB.out; simp only [List.length_cons, List.length_nil]; omega) (by omega) hsz (Hold.out ?_)))
            refine Hold.mk fun v11 w11 ho11 hg11 => ?_
            have hfe : P.flatten ++ [n8] = (P ++ [[n8]]).flatten := by simp
            rw [hfe] at ho11
            have hD11 := (hD10.extW hA11).want ho11 hg11
            clear hfe hD10 hA11 hin2 hsz ho11 hg11
            go_wp2_with fail
            go_meet
            exact ⟨a.push [n8], P ++ [[n8]], T + 1, by omega, .inr h0, hD11, Lib.hid (HP.out.push (by simp) h40 h40)⟩
          · have e0 : (pT.tmod 3 == 0) = false := by simp [h0]
            go_wp2_with fail
            go_meet
            exact ⟨a, P, T, by omega, .inl rfl, hD, HP⟩
        clear hD HP HNB hNBl
        obtain ⟨a', P', N, hN, hNT, hD, HP⟩ := hcut
        have hc' := hD.x.ext.cell HCW.out
        go_upto_if 77 with fail
        by_cases h1 : pT.tmod 3 = 1
        · have e1 : (pT.tmod 3 == 1) = true := by simp [h1]
          obtain rfl : N = T := by omega
          have hDs := hD.symm
          have HPs := Lib.hid HP.out.symm
          obtain ⟨Aq, cq, Af, fc, ftv, zs, hblk, hQ, hz, hfl, hbd, hft⟩ := hDs.x.sa.ex
          have hld := sd_load hblk
          have hA8 := (Ext.refl wc).alloc (.cells #[.int .u8 (N : Int), .int .u8 (N : Int)] 5)
          have hin : InB (wc.alloc (.cells #[.int .u8 (N : Int), .int .u8 (N : Int)] 5)) (.slice (some ⟨wc.heap.size, 0, none⟩) 2 2) [n8, n8] := by
            rw [HC8.out]
            exact ⟨_, 2, rfl, Nat.le_refl _, Rd_blk (heap_alloc_new wc (.cells #[bv n8, bv n8] 5))⟩
          have hql : b.e.queue.length < 1000 := by
            have h1 := HPs.out.two.fw.queue
            have h2 := HPs.out.count
            rw [h1, List.length_drop]
            omega
          have HBD := Lib.hid hbd
          have HZZ := Lib.hid hz
          clear hbd hz
          go_wp2_with first | refine wpList_load_run rfl 26 (.tmp 82) rfl _ _ rfl hld ?_
          refine (Push_own _ _ b.e [n8, n8] _ ⟨_, rfl, (hQ.ext hA8).out⟩ HPs.out.la.e.tame.mid hin).mono ?_
          rintro en w9 ⟨y9, e9, er9, rfl, heq, hq9, hx9⟩
          rw [push_small _ hql [n8, n8] (by simp)] at heq
          have HE : Hid (b.push [n8, n8] = b.setE e9) := Lib.hid (by rw [SD.push, (Prod.mk.inj heq).1])
          clear heq
          obtain ⟨A9, c9, rfl, _⟩ := hq9.in_.form
          have hD9 := hDs.extW (hA8.trans hx9)
          obtain ⟨w10, hst, hblk10, hg10⟩ := sd_store ((hA8.trans hx9).heap hblk) e9 A9 e9.queue.length c9
          clear hld
          go_upto_region 16 with first | refine wpList_store_run rfl 26 (.tmp 91) (.tmp 88) rfl _ _ _ rfl rfl hst ?_
          have hkA : Kept w9.heap.size (xsOf (bes u14 (.slice VA NA cA)) bb ba gB gA) w9 w10 := XSt.keptA hg10
          have hXp : XSt (bes u14 (.slice VA NA cA)) w w10 bb ba (b.setE e9) a' gB gA :=
            hD9.x.upA hg10 rfl ⟨A9, c9, Af, fc, ftv, zs, hblk10, (((Fr.qOwn hq9).st (fun x hx => Nat.lt_of_lt_of_le (hDs.x.lt x hx) hA8.size)).imp fun _ h => h.in_).mono hkA (fun y hy => .inl hy), HZZ.out, (hfl.ext (hA8.trans hx9)).mono hkA (fun y hy => .inl hy), fun z hz => ((HBD.out z hz).ext (hA8.trans hx9)).mono hkA (fun y hy => .inl hy), (hft.ext (hA8.trans hx9)).mono hkA (fun y hy => .inl hy)⟩
          rw [← HE.out] at hXp
          have hD10 := hD9.put hg10 hXp
          clear hD hDs hD9 hXp hkA hst hblk10 hg10 hblk hQ hfl hft hA8 hin hq9 hx9
          have hA11 := (Ext.refl w10).alloc (.cells #[.int .u8 (N : Int), .int .u8 (N : Int)] 5)
          have hin2 : InB (w10.alloc (.cells #[.int .u8 (N : Int), .int .u8 (N : Int)] 5)) (.slice (some ⟨w10.heap.size, 0, none⟩) 2 2) [n8, n8] := by
            rw [HC8.out]
            exact ⟨_, 2, rfl, Nat.le_refl _, Rd_blk (heap_alloc_new w10 (.cells #[bv n8, bv n8] 5))⟩
          have hsz := (hD10.x.ext.trans hA11).size
          go_wp2_with (at_builtin; go_must (refine wpList_appendV elem_u8 (fun _ => rfl) rfl (.tmp 92) (.tmp 95) rfl w.heap.size _ Q.flatten rfl (hD10.ob.ext hA11) _ [n8, n8] rfl hin2 (by have := HNA.out; simp only [List.length_cons, List.length_nil]; omega) (by omega) hsz (Hold.out ?_)))
          refine Hold.mk fun v11 w11 ho11 hg11 => ?_
          have hfe : Q.flatten ++ [n8, n8] = (Q ++ [[n8, n8]]).flatten := by simp
          rw [hfe] at ho11
          have hD11 := ((hD10.extW hA11).want ho11 hg11).symm
          clear hfe hD10 hA11 hin2 hsz ho11 hg11
          go_wp2_with fail
          go_meet
          exact ⟨a', b.push [n8, n8], P', Q ++ [[n8, n8]], hD11, Lib.hid ((HPs.out.push (by simp) h40 h40).symm.more (by omega))⟩
        · have e1 : (pT.tmod 3 == 1) = false := by simp [h1]
          go_wp2_with fail
          go_meet
          exact ⟨a', b, P', Q, hD, Lib.hid (HP.out.more (by omega))⟩
    case rest =>
      clear hD HP HNA HNB hNAl hNBl
      obtain ⟨a1, b1, P1, Q1, hD, HP⟩ := hcut
      obtain ⟨VA, cA, hvA, _, _⟩ := hD.oa.inV
      obtain ⟨VB, cB, hvB, _, _⟩ := hD.ob.inV
      obtain ⟨NA, hNA⟩ : ∃ NA, NA = Q1.flatten.length := ⟨_, rfl⟩
      obtain ⟨NB, hNB⟩ : ∃ NB, NB = P1.flatten.length := ⟨_, rfl⟩
      rw [← hNA] at hvA
      rw [← hNB] at hvB
      subst hvA
      subst hvB
      have HNA := Lib.hid hNA
      have HNB := Lib.hid hNB
      clear hNA hNB
      go_wp2_with fail
      refine (exchange_any _ w ba bb a1 b1 gA gB (T : Int) (10 * T) (5 * T) wc hD.x HP.out.la HP.out.lb (by omega) (by omega) (by omega)).mono ?_
      rintro en w9 ⟨v9, a2, b2, gA2, gB2, rfl, hex, hX2, hk9, _, _⟩
      have hD2 := hD.exch hX2 hk9
      have HEX := Lib.hid hex
      have hl12 := HP.out.la.exch HP.out.lb (by omega) hex
      have hqs : a2.e.queue.length ≤ 1000 ∧ b2.e.queue.length ≤ 1000 := by
        have h1 := hl12.1.e.all
        have h2 := hl12.2.e.all
        have h3 := hl12.1.e.cons.1
        have h4 := hl12.2.e.cons.1
        omega
      clear hX2 hk9 hex hD hl12
      go_upto_region 18 with fail
      go_cut [134] (fun s wx => ∃ d : Bool, s = .bool d ∧ (d = true ↔ 40 ≤ T ∧ Done a2 b2) ∧ Ext w9 wx)
      case first =>
        obtain ⟨Aq, cq, Af, fc, ftv, zs, hba, _⟩ := hD2.x.sa.ex
        obtain ⟨Bq, dq, Bf, fd, ftw, zt, hbb, _⟩ := hD2.x.sb.ex
        obtain ⟨p0, p1, p2, p3, p4, p5, p6, p7⟩ := sd_ep hba
        obtain ⟨q0, q1, q2, q3, q4, q5, q6, q7⟩ := sd_ep hbb
        have ws : IntKind.i64.wrap ((a2.e.queue.length : Int) + (b2.e.queue.length : Int)) = (a2.e.queue.length : Int) + (b2.e.queue.length : Int) := by rw [IntKind.wrap_i64]; omega
        clear hba hbb p0 p2 p3 p4 p5 p7 q0 q2 q3 q4 q5 q7 HP HEX HNA HNB
        have HD2 := Lib.hid hD2
        clear hD2
        by_cases h40 : 40 ≤ T
        · have t1 : decide ((40 : Int) ≤ (T : Int)) = true := by simp; omega
          by_cases hq : a2.e.queue.length + b2.e.queue.length = 0
          · have t2 : ((a2.e.queue.length : Int) + (b2.e.queue.length : Int) == 0) = true := by simp; omega
            have hqa : a2.e.queue = [] := List.length_eq_zero_iff.1 (by omega)
            have hqb : b2.e.queue = [] := List.length_eq_zero_iff.1 (by omega)
            have HQA := Lib.hid hqa
            have HQB := Lib.hid hqb
            clear hqa hqb hq
            by_cases hpa : a2.e.peer = 0
            · have t3 : (a2.e.peer != 0) = false := by simp [hpa]
              have HPA := Lib.hid hpa
              clear hpa
              go_quiet (fail)
              go_wp2_with fail
              go_meet
              exact ⟨false, rfl, ⟨fun h => (by cases h), fun h => absurd HPA.out h.2.1⟩, (Ext.refl w9).drewN _⟩
            · have t3 : (a2.e.peer != 0) = true := by simp [hpa]
              have HPA := Lib.hid hpa
              clear hpa
              by_cases hpb : b2.e.peer = 0
              · have t4 : (b2.e.peer != 0) = false := by simp [hpb]
                have HPB := Lib.hid hpb
                clear hpb
                go_quiet (fail)
                go_wp2_with fail
                go_meet
                exact ⟨false, rfl, ⟨fun h => (by cases h), fun h => absurd HPB.out h.2.2.1⟩, (Ext.refl w9).drewN _⟩
              · have t4 : (b2.e.peer != 0) = true := by simp [hpb]
                have HPB := Lib.hid hpb
                clear hpb
                go_quiet (fail)
                go_wp2_with fail
                go_meet
                exact ⟨true, rfl, ⟨fun _ => ⟨h40, HPA.out, HPB.out, HQA.out, HQB.out⟩, fun _ => rfl⟩, (Ext.refl w9).drewN _⟩
          · have t2 : ((a2.e.queue.length : Int) + (b2.e.queue.length : Int) == 0) = false := by simp; omega
            go_quiet (fail)
            go_wp2_with fail
            go_meet
            exact ⟨false, rfl, ⟨fun h => (by cases h), fun h => absurd (by rw [h.2.2.2.1, h.2.2.2.2]; rfl) hq⟩, (Ext.refl w9).drewN _⟩
        · have t1 : decide ((40 : Int) ≤ (T : Int)) = false := by simp; omega
          go_quiet (fail)
          go_wp2_with fail
          go_meet
          exact ⟨false, rfl, ⟨fun h => (by cases h), fun h => absurd h.1 h40⟩, (Ext.refl w9).drewN _⟩
      case rest =>
        obtain ⟨d, rfl, hd, hxc⟩ := hcut
        have hD3 := hD2.extW hxc
        clear hD2 hxc
        cases d with
        | false =>
          have HP2 : Hid (DPl (T + 1) (min (T + 1) 40) a2 b2 P1 Q1) := Lib.hid (HP.out.exch hlt HEX.out (fun h1 h2 => by have := hd.2 ⟨h1, h2⟩; cases this))
          have hT1 := HP2.out.short
          go_wp2_with fail
          go_roundw
          case rel => exact ⟨T + 1, a2, b2, gA2, gB2, P1, Q1, by first | (with_reducible rfl) | go_num, hT1, hD3, HP2⟩
          case measure => simp [intOf]; omega
        | true =>
          obtain ⟨h40, hdn⟩ := hd.1 rfl
          have t2 := HP.out.two.exch HP.out.la HP.out.lb HEX.out
          have HB1 : Hid (b2.got = P1.flatten) := Lib.hid (t2.fw.done hdn.2.2.1)
          have HA1 : Hid (a2.got = Q1.flatten) := Lib.hid (t2.fro.done hdn.2.2.2)
          have hra : a2.resets = 0 := t2.fro.resets
          have hrb : b2.resets = 0 := t2.fw.resets
          clear hd hdn t2 HP HEX
          obtain ⟨Aq, cq, Af, fc, ftv, zs, hba, _⟩ := hD3.x.sa.ex
          obtain ⟨Bq, dq, Bf, fd, ftw, zt, hbb, _⟩ := hD3.x.sb.ex
          obtain ⟨GA, ga, hga, _, _⟩ := hD3.x.oa.inV
          obtain ⟨GB, gb, hgb, _, _⟩ := hD3.x.ob.inV
          rw [HA1.out, ← HNA.out] at hga
          rw [HB1.out, ← HNB.out] at hgb
          subst hga
          subst hgb
          have i1 : InB wc (.slice GA NA ga) Q1.flatten := HA1.out ▸ hD3.x.oa.inV
          have i2 : InB wc (.slice GB NB gb) P1.flatten := HB1.out ▸ hD3.x.ob.inV
          have i3 : InB wc (.slice VA NA cA) Q1.flatten := hD3.oa.inV
          have i4 : InB wc (.slice VB NB cB) P1.flatten := hD3.ob.inV
          rw [hra] at hba
          rw [hrb] at hbb
          obtain ⟨_, _, _, a11, a12⟩ := sd_at hba
          obtain ⟨_, _, _, b11, b12⟩ := sd_at hbb
          have hext := hD3.x.ext
          clear hba hbb hD3 hra hrb HA1 HB1 HNA HNB
          generalize Q1.flatten = fA at *
          generalize P1.flatten = fB at *
          go_upto_region 19 with fail
          refine wp_region_X #[true, true, true, true, true, true, true, true, true, true, true, true, true, true, true, true, true, true, true, true, true, true, true, true, true, true, true, true, true, true, false] 30 1 (by kernel_rfl) rfl ?_
          refine wpX_vt 0 (.pointer (some ⟨ba, 0, none⟩)) rfl rfl (by kernel_rfl) (by kernel_rfl) (by kernel_rfl) (fun _ _ _ _ h => h) (by kernel_rfl) rfl (by rfl) (fun W' hW => by
            skip
            go_simp) ?_
          simp only [List.setIfInBounds_toArray, List.set_cons_zero, List.set_cons_succ]
          refine wpX_vt 1 (.pointer (some ⟨ba, 0, none⟩)) rfl rfl (by kernel_rfl) (by kernel_rfl) (by kernel_rfl) (fun _ _ _ _ h => h) (by kernel_rfl) rfl (by rfl) (fun W' hW => by
            skip
            go_simp) ?_
          simp only [List.setIfInBounds_toArray, List.set_cons_zero, List.set_cons_succ]
          refine wpX_vt 2 (.pointer (some ⟨ba, 11, none⟩)) rfl rfl (by kernel_rfl) (by kernel_rfl) (by kernel_rfl) (fun _ _ _ _ h => h) (by kernel_rfl) rfl (by rfl) (fun W' hW => by
            skip
            go_simp) ?_
          simp only [List.setIfInBounds_toArray, List.set_cons_zero, List.set_cons_succ]
          refine wpX_vt 3 (.slice GA NA ga) rfl rfl (by kernel_rfl) (by kernel_rfl) (by kernel_rfl) (fun _ _ _ _ h => h) (by kernel_rfl) rfl (by rfl) (fun W' hW => by
            have z := (((Ext.refl wc).drew).trans hW).cell a11
            go_simp) ?_
          simp only [List.setIfInBounds_toArray, List.set_cons_zero, List.set_cons_succ]
          refine wpX_vt 4 (.string ⟨fA.toArray⟩) rfl rfl (by kernel_rfl) (by kernel_rfl) (by kernel_rfl) (fun _ _ _ _ h => h) (by kernel_rfl) rfl (by rfl) (fun W' hW => by
            have z := strB (i1.ext (((Ext.refl wc).drew).trans hW))
            go_simp) ?_
          simp only [List.setIfInBounds_toArray, List.set_cons_zero, List.set_cons_succ]
          refine wpX_vt 5 (.slice VA NA cA) rfl rfl (by kernel_rfl) (by kernel_rfl) (by kernel_rfl) (fun _ _ _ _ h => h) (by kernel_rfl) rfl (by rfl) (fun W' hW => by
            skip
            go_simp) ?_
          simp only [List.setIfInBounds_toArray, List.set_cons_zero, List.set_cons_succ]
          refine wpX_vt 6 (.string ⟨fA.toArray⟩) rfl rfl (by kernel_rfl) (by kernel_rfl) (by kernel_rfl) (fun _ _ _ _ h => h) (by kernel_rfl) rfl (by rfl) (fun W' hW => by
            have z := strB (i3.ext (((Ext.refl wc).drew).trans hW))
            go_simp) ?_
          simp only [List.setIfInBounds_toArray, List.set_cons_zero, List.set_cons_succ]
          refine wpX_vt 7 (.bool true) rfl rfl (by kernel_rfl) (by kernel_rfl) (by kernel_rfl) (fun _ _ _ _ h => h) (by kernel_rfl) rfl (by rfl) (fun W' hW => by
            skip
            go_simp) ?_
          simp only [List.setIfInBounds_toArray, List.set_cons_zero, List.set_cons_succ]
          refine wpX_vt 8 (.bool true) rfl rfl (by kernel_rfl) (by kernel_rfl) (by kernel_rfl) (fun _ _ _ _ h => h) (by kernel_rfl) rfl (by rfl) (fun W' hW => by
            skip
            go_simp) ?_
          simp only [List.setIfInBounds_toArray, List.set_cons_zero, List.set_cons_succ]
          refine wpX_vt 9 (.pointer (some ⟨bb, 0, none⟩)) rfl rfl (by kernel_rfl) (by kernel_rfl) (by kernel_rfl) (fun _ _ _ _ h => h) (by kernel_rfl) rfl (by rfl) (fun W' hW => by
            skip
            go_simp) ?_
          simp only [List.setIfInBounds_toArray, List.set_cons_zero, List.set_cons_succ]
          refine wpX_vt 10 (.pointer (some ⟨bb, 0, none⟩)) rfl rfl (by kernel_rfl) (by kernel_rfl) (by kernel_rfl) (fun _ _ _ _ h => h) (by kernel_rfl) rfl (by rfl) (fun W' hW => by
            skip
            go_simp) ?_
          simp only [List.setIfInBounds_toArray, List.set_cons_zero, List.set_cons_succ]
          refine wpX_vt 11 (.pointer (some ⟨bb, 11, none⟩)) rfl rfl (by kernel_rfl) (by kernel_rfl) (by kernel_rfl) (fun _ _ _ _ h => h) (by kernel_rfl) rfl (by rfl) (fun W' hW => by
            skip
            go_simp) ?_
          simp only [List.setIfInBounds_toArray, List.set_cons_zero, List.set_cons_succ]
          refine wpX_vt 12 (.slice GB NB gb) rfl rfl (by kernel_rfl) (by kernel_rfl) (by kernel_rfl) (fun _ _ _ _ h => h) (by kernel_rfl) rfl (by rfl) (fun W' hW => by
            have z := (((Ext.refl wc).drew).trans hW).cell b11
            go_simp) ?_
          simp only [List.setIfInBounds_toArray, List.set_cons_zero, List.set_cons_succ]
          refine wpX_vt 13 (.string ⟨fB.toArray⟩) rfl rfl (by kernel_rfl) (by kernel_rfl) (by kernel_rfl) (fun _ _ _ _ h => h) (by kernel_rfl) rfl (by rfl) (fun W' hW => by
            have z := strB (i2.ext (((Ext.refl wc).drew).trans hW))
            go_simp) ?_
          simp only [List.setIfInBounds_toArray, List.set_cons_zero, List.set_cons_succ]
          refine wpX_vt 14 (.slice VB NB cB) rfl rfl (by kernel_rfl) (by kernel_rfl) (by kernel_rfl) (fun _ _ _ _ h => h) (by kernel_rfl) rfl (by rfl) (fun W' hW => by
            skip
            go_simp) ?_
          simp only [List.setIfInBounds_toArray, List.set_cons_zero, List.set_cons_succ]
          refine wpX_vt 15 (.string ⟨fB.toArray⟩) rfl rfl (by kernel_rfl) (by kernel_rfl) (by kernel_rfl) (fun _ _ _ _ h => h) (by kernel_rfl) rfl (by rfl) (fun W' hW => by
            have z := strB (i4.ext (((Ext.refl wc).drew).trans hW))
            go_simp) ?_
          simp only [List.setIfInBounds_toArray, List.set_cons_zero, List.set_cons_succ]
          refine wpX_vt 16 (.bool true) rfl rfl (by kernel_rfl) (by kernel_rfl) (by kernel_rfl) (fun _ _ _ _ h => h) (by kernel_rfl) rfl (by rfl) (fun W' hW => by
            skip
            go_simp) ?_
          simp only [List.setIfInBounds_toArray, List.set_cons_zero, List.set_cons_succ]
          refine wpX_vt 17 (.bool true) rfl rfl (by kernel_rfl) (by kernel_rfl) (by kernel_rfl) (fun _ _ _ _ h => h) (by kernel_rfl) rfl (by rfl) (fun W' hW => by
            skip
            go_simp) ?_
          simp only [List.setIfInBounds_toArray, List.set_cons_zero, List.set_cons_succ]
          refine wpX_vt 18 (.bool true) rfl rfl (by kernel_rfl) (by kernel_rfl) (by kernel_rfl) (fun _ _ _ _ h => h) (by kernel_rfl) rfl (by rfl) (fun W' hW => by
            skip
            go_simp) ?_
          simp only [List.setIfInBounds_toArray, List.set_cons_zero, List.set_cons_succ]
          refine wpX_vt 19 (.pointer (some ⟨ba, 0, none⟩)) rfl rfl (by kernel_rfl) (by kernel_rfl) (by kernel_rfl) (fun _ _ _ _ h => h) (by kernel_rfl) rfl (by rfl) (fun W' hW => by
            skip
            go_simp) ?_
          simp only [List.setIfInBounds_toArray, List.set_cons_zero, List.set_cons_succ]
          refine wpX_vt 20 (.pointer (some ⟨ba, 0, none⟩)) rfl rfl (by kernel_rfl) (by kernel_rfl) (by kernel_rfl) (fun _ _ _ _ h => h) (by kernel_rfl) rfl (by rfl) (fun W' hW => by
            skip
            go_simp) ?_
          simp only [List.setIfInBounds_toArray, List.set_cons_zero, List.set_cons_succ]
          refine wpX_vt 21 (.pointer (some ⟨ba, 12, none⟩)) rfl rfl (by kernel_rfl) (by kernel_rfl) (by kernel_rfl) (fun _ _ _ _ h => h) (by kernel_rfl) rfl (by rfl) (fun W' hW => by
            skip
            go_simp) ?_
          simp only [List.setIfInBounds_toArray, List.set_cons_zero, List.set_cons_succ]
          refine wpX_vt 22 (.int .i64 0) rfl rfl (by kernel_rfl) (by kernel_rfl) (by kernel_rfl) (fun _ _ _ _ h => h) (by kernel_rfl) rfl (by rfl) (fun W' hW => by
            have z := (((Ext.refl wc).drew).trans hW).cell a12
            go_simp) ?_
          simp only [List.setIfInBounds_toArray, List.set_cons_zero, List.set_cons_succ]
          refine wpX_vt 23 (.pointer (some ⟨bb, 0, none⟩)) rfl rfl (by kernel_rfl) (by kernel_rfl) (by kernel_rfl) (fun _ _ _ _ h => h) (by kernel_rfl) rfl (by rfl) (fun W' hW => by
            skip
            go_simp) ?_
          simp only [List.setIfInBounds_toArray, List.set_cons_zero, List.set_cons_succ]
          refine wpX_vt 24 (.pointer (some ⟨bb, 0, none⟩)) rfl rfl (by kernel_rfl) (by kernel_rfl) (by kernel_rfl) (fun _ _ _ _ h => h) (by kernel_rfl) rfl (by rfl) (fun W' hW => by
            skip
            go_simp) ?_
          simp only [List.setIfInBounds_toArray, List.set_cons_zero, List.set_cons_succ]
          refine wpX_vt 25 (.pointer (some ⟨bb, 12, none⟩)) rfl rfl (by kernel_rfl) (by kernel_rfl) (by kernel_rfl) (fun _ _ _ _ h => h) (by kernel_rfl) rfl (by rfl) (fun W' hW => by
            skip
            go_simp) ?_
          simp only [List.setIfInBounds_toArray, List.set_cons_zero, List.set_cons_succ]
          refine wpX_vt 26 (.int .i64 0) rfl rfl (by kernel_rfl) (by kernel_rfl) (by kernel_rfl) (fun _ _ _ _ h => h) (by kernel_rfl) rfl (by rfl) (fun W' hW => by
            have z := (((Ext.refl wc).drew).trans hW).cell b12
            go_simp) ?_
          simp only [List.setIfInBounds_toArray, List.set_cons_zero, List.set_cons_succ]
          refine wpX_vt 27 (.int .i64 0) rfl rfl (by kernel_rfl) (by kernel_rfl) (by kernel_rfl) (fun _ _ _ _ h => h) (by kernel_rfl) rfl (by rfl) (fun W' hW => by
            have z : IntKind.i64.wrap 0 = 0 := by rw [IntKind.wrap_i64]; rfl
            go_simp) ?_
          simp only [List.setIfInBounds_toArray, List.set_cons_zero, List.set_cons_succ]
          refine wpX_vt 28 (.bool true) rfl rfl (by kernel_rfl) (by kernel_rfl) (by kernel_rfl) (fun _ _ _ _ h => h) (by kernel_rfl) rfl (by rfl) (fun W' hW => by
            skip
            go_simp) ?_
          simp only [List.setIfInBounds_toArray, List.set_cons_zero, List.set_cons_succ]
          refine wpX_vt 29 (.bool true) rfl rfl (by kernel_rfl) (by kernel_rfl) (by kernel_rfl) (fun _ _ _ _ h => h) (by kernel_rfl) rfl (by rfl) (fun W' hW => by
            skip
            go_simp) ?_
          simp only [List.setIfInBounds_toArray, List.set_cons_zero, List.set_cons_succ]
          refine wpX_end rfl fun W7 hW7 => tail_seq 30 rfl (by kernel_rfl) ?_
          simp only [List.drop_succ_cons, List.drop_zero]
          have hX7 := hext.trans (((Ext.refl wc).drew).trans hW7)
          clear hext hW7 a11 a12 b11 b12 i1 i2 i3 i4
          go_wp2_with fail
          refine NoPanic.normal ?_
          go_wp2_with fail
          go_ret
          exact ⟨rfl, hX7⟩
end Go.Proofs.Ytnobepobalpccaa
