/- PacketDecodes, walked. -/
import Derived.Test.YtoeibcpjmoekpaaPacketK
import Derived.Test.YtoeibcpjmoekpaaPacketO
namespace Go.Proofs.Ytoeibcpjmoekpaa
open Go.RowKit
set_option linter.unusedVariables false

theorem xor_byte (a b : Int) : ∃ c : UInt8, bits .xor .u8 a b = (c.toNat : Int) := by
  have h : 0 ≤ bits .xor .u8 a b ∧ bits .xor .u8 a b < 256 := by
    show 0 ≤ IntKind.u8.wrap _ ∧ IntKind.u8.wrap _ < 256
    simp only [IntKind.wrap, IntKind.bits, IntKind.signed]
    simp
    omega
  refine ⟨UInt8.ofNat (bits .xor .u8 a b).toNat, ?_⟩
  rw [ofNat_small (by omega)]
  omega
theorem Rd.int {w : World} {A : Option Addr} {l : List Int} (h : Rd w A (l.map iv)) {k : Nat} (hk : k < l.length) : ∃ b off, A = some ⟨b, off, none⟩ ∧ w.cell? ⟨b, off + k, none⟩ = some (.int .i64 l[k]) := by
  obtain ⟨b, off, e, hc⟩ := h.at2 (k := k) (by simpa using hk)
  exact ⟨b, off, e, by rw [hc]; simp [iv]⟩
/-- one row of bytes of the table -/
def RowB (W : World) (g j : Nat) : Prop := ∃ (y : Value) (l : List UInt8), W.cell? ⟨g, j, none⟩ = some y ∧ InB W y l ∧ l.length ≤ 100000
theorem RowB.ext {W W' : World} {g j : Nat} (h : RowB W g j) (he : Ext W W') : RowB W' g j := by
  obtain ⟨y, l, h1, h2, h3⟩ := h
  exact ⟨y, l, he.cell h1, h2.ext he, h3⟩

set_option maxHeartbeats 4000000 in
set_option maxRecDepth 100000 in
theorem decodes_walk (u v z : Value) (raw : List UInt8) (p : Pkt) (at_ : List Int) (by_ cut : Int) (w : World) (hu : InB w u raw) (hp : PktAt w v p) (hz : InI w z at_) (hlr : raw.length ≤ 9223372036854775807) (hlp : p.body.length ≤ 9223372036854775807) (hla : at_.length ≤ 9223372036854775807) :
    Calls Try.prog 6 #[u, v, z, .int .u8 by_, .int .i64 cut] w fun e w' => e = .returned (.bool true) ∧ Ext w w' := by
  have hU := hu
  have hP := hp
  have hZ := hz
  obtain ⟨R, rc, rfl, _, _⟩ := hu
  obtain ⟨y, rfl, ⟨A, c, rfl, hcap, hr⟩⟩ := hp
  obtain ⟨T, tc, rfl, _, hrt⟩ := hz
  go_enter Try.func6, Try.ntmps6
  go_upto_region 1 with fail
  obtain ⟨W, hW, hE, hB⟩ : ∃ W, W = w.alloc (.cells #[.int .i64 p.kind, .int .i64 p.src, .int .i64 p.dst, .int .i64 p.seq, .int .i64 p.ack, .slice A p.body.length c] 39) ∧ Ext w W ∧ W.heap[w.heap.size]? = some (.cells #[.int .i64 p.kind, .int .i64 p.src, .int .i64 p.dst, .int .i64 p.seq, .int .i64 p.ack, .slice A p.body.length c] 39 (0, 0)) := ⟨_, rfl, (Ext.refl w).alloc _, heap_alloc_new w _⟩
  rw [← hW]
  clear hW
  obtain ⟨q0, q1, q2, q3, q4, q5⟩ := blk6 hB
  go_cut [33] (fun s wx => s = .bool (decide (200 < p.body.length ∨ 8000 < raw.length)) ∧ W = wx)
  case first =>
    by_cases e1 : 200 < p.body.length
    · have t1 : decide ((200 : Int) < (p.body.length : Int)) = true := by first | (simpa using e1) | (simp; omega)
      go_wp2_with fail
      go_meet
      exact ⟨by rw [decide_eq_true (by omega)], rfl⟩
    · have t1 : decide ((200 : Int) < (p.body.length : Int)) = false := by first | (simpa using e1) | (simp; omega)
      by_cases e2 : 8000 < raw.length
      · have t2 : decide ((8000 : Int) < (raw.length : Int)) = true := by first | (simpa using e2) | (simp; omega)
        go_wp2_with fail
        go_meet
        exact ⟨by rw [decide_eq_true (by omega)], rfl⟩
      · have t2 : decide ((8000 : Int) < (raw.length : Int)) = false := by first | (simpa using e2) | (simp; omega)
        go_wp2_with fail
        go_meet
        exact ⟨by rw [decide_eq_false (by omega)], rfl⟩
  case rest =>
    obtain ⟨rfl, rfl⟩ := hcut
    by_cases hbad : 200 < p.body.length ∨ 8000 < raw.length
    · rw [decide_eq_true hbad]
      clear hbad hB q0 q1 q2 q3 q4 q5
      go_wp2_with fail
      refine (awake33_any W).mono ?_
      rintro e w9 ⟨rfl, he9⟩
      go_wp2
      go_ret
      exact ⟨rfl, hE.trans he9⟩
    · rw [decide_eq_false hbad]
      have g1 : p.body.length ≤ 200 := by omega
      have g2 : raw.length ≤ 8000 := by omega
      have R1 := Lib.hid (near_right p (by omega))
      clear hbad hlp hlr
      go_wp2_with fail
      refine (near_any _ p 11 W (hP.ext hE)).mono ?_
      rintro e w1 ⟨v1, rfl, hp1, he1⟩
      have hE1 := hE.trans he1
      generalize nearP p 11 = p1 at *
      have bl1 : p1.body.length ≤ 6000 := by have := R1.out.1; simp only [badP, not_or] at this; omega
      clear q0 q1 q2 q3 q4 q5 hE he1 hB
      go_wp2_with fail
      refine (refEncode_any _ p1 w1 hp1 (by omega)).mono ?_
      rintro e w2 ⟨y2, er2, rfl, hc2, he2⟩
      obtain ⟨rfl, ho2⟩ : er2 = 0 ∧ OwnV bv 5 w1.heap.size w2 y2 (encP p1) := by
        rcases hc2 with ⟨_, h1, h2⟩ | ⟨hR', _, _⟩
        · exact ⟨h1, h2⟩
        · exact absurd R1.out hR'
      obtain ⟨le1, le2⟩ := enc_len R1.out
      have hE2 := hE1.trans he2
      have ib := ho2.inV
      clear hp1 hc2 he2 hE1 ho2 R1
      generalize encP p1 = en at *
      obtain ⟨Y2, c2, rfl, _, _⟩ := id ib
      go_wp2_with (at_builtin; go_must (refine wpList_appendV elem_u8 (fun _ => rfl) rfl (.tmp 41) (.tmp 42) rfl w2.heap.size _ [] rfl (own_empty w2 _ rfl).toV _ en rfl (ib.ext ((Ext.refl w2).alloc _)) (by simp; omega) (by omega) (by simp) (Hold.out ?_)))
      refine Hold.mk fun v3 w3 ho3 hg => ?_
      have hE3 := hg.ext ((Ext.refl w2).alloc _) (fun k hk => by simp only [Value.ownBlock, Option.some.injEq] at hk; omega)
      clear hg
      obtain ⟨gx, cx, rfl, hgx1, hgx2⟩ := ho3.form (by simpa using (by omega : 0 < en.length))
      generalize hlx : en.length = N at *
      have HLX := Lib.hid hlx
      clear hlx
      go_wp2_with fail
      go_loopw [14] (fun i wr => ∃ (k : Nat) (lx : List UInt8), k ≤ 3 ∧ k ≤ at_.length ∧ i = .int .i64 (k : Int) ∧ lx.length = N ∧ OwnV bv 5 w2.heap.size wr (.slice (some ⟨gx, 0, none⟩) N cx) lx ∧ Ext w2 wr) (fun i _ => 3 - (intOf i).toNat)
      case atStart => exact ⟨0, en, by omega, by omega, rfl, HLX.out, ho3, hE3⟩
      case round =>
        clear ho3 hE3
        obtain ⟨k, lx, hk3, hka, rfl, hlx, ho, hx⟩ := hrel
        have HLY := Lib.hid hlx
        clear hlx
        obtain ⟨wo, rfl⟩ : ∃ wo : World, wo = wr := ⟨_, rfl⟩
        by_cases hlt : k < at_.length
        · have t1 : decide ((k : Int) < (at_.length : Int)) = true := by simp; omega
          by_cases hl3 : k < 3
          · have t2 : decide ((k : Int) < 3) = true := by simp; omega
            obtain ⟨b1, o1, rfl, hc1⟩ := (hrt.ext (hE2.trans hx)).int hlt
            have hi1 : (k : Int) < (at_.length : Int) := by omega
            generalize at_[k] = ak at *
            go_wp2_with fail
            refine (Mod_any ak (N : Int) wo (by omega) (by omega)).mono ?_
            rintro e w4 ⟨rfl, rfl⟩
            have m0 := Int.emod_nonneg ak (show (N : Int) ≠ 0 by omega)
            have m1 := Int.emod_lt_of_pos ak (show (0 : Int) < (N : Int) by omega)
            obtain ⟨mm, hmm⟩ := Int.eq_ofNat_of_zero_le m0
            rw [hmm] at m1 ⊢
            clear hmm m0
            have hmN : mm < lx.length := by have := HLY.out; omega
            obtain ⟨hcm, hfm⟩ := ho.at_ HLY.out.symm mm hmN
            unfold bv at hcm
            obtain ⟨cc, hcc⟩ := xor_byte ((lx[mm].toNat : Nat) : Int) by_
            have hput := ho.put HLY.out.symm mm cc
            have hx2 := hx.setCell (p := ⟨gx, mm, none⟩) hgx1 (bv cc)
            obtain ⟨ho2, _⟩ := hput
            unfold bv at ho2 hx2
            generalize ((lx[mm].toNat : Nat) : Int) = om at *
            go_wp2_with fail
            go_roundw
            case rel => exact ⟨k + 1, lx.set mm cc, by omega, by omega, by go_num, by rw [List.length_set]; exact HLY.out, ho2, hx2⟩
            case measure => simp [intOf]; omega
          · have t2 : decide ((k : Int) < 3) = false := by simp; omega
            go_wp2_with fail
            refine (Mod_any cut ((N : Int) - 1) wo (by omega) (by omega)).mono ?_
            rintro e w4 ⟨rfl, rfl⟩
            have m0 := Int.emod_nonneg cut (show (N : Int) - 1 ≠ 0 by omega)
            have m1 := Int.emod_lt_of_pos cut (show (0 : Int) < (N : Int) - 1 by omega)
            obtain ⟨nn, hnn⟩ := Int.eq_ofNat_of_zero_le m0
            rw [hnn] at m1 ⊢
            clear hnn m0
            have hnl : nn ≤ lx.length := by have := HLY.out; omega
            obtain ⟨A3, c3, hsl3, hin3⟩ := preB ho.inV nn hnl
            have HL1 : Hid ((lx.take nn).length = nn) := Lib.hid (by simp; omega)
            generalize lx.take nn = l1 at *
            have ll1 : l1.length ≤ 7000 := by have := HL1.out; omega
            go_wp2_with (at_builtin; go_must (refine wpList_appendV elem_u8 (fun _ => rfl) rfl (.tmp 72) (.tmp 75) rfl wo.heap.size _ [] rfl (own_empty wo _ rfl).toV _ l1 rfl (hin3.ext ((Ext.refl wo).alloc _)) (by simp; omega) (by omega) (by simp) (Hold.out ?_)))
            refine Hold.mk fun v4 w4 ho4 hg => ?_
            have hE4 := hg.ext ((Ext.refl wo).alloc _) (fun k hk => by simp only [Value.ownBlock, Option.some.injEq] at hk; omega)
            clear hg
            obtain ⟨Y4, c4, rfl, _, _⟩ := ho4.inV
            go_wp2_with fail
            refine (refSum_any _ l1 w4 ho4.inV (by omega)).mono ?_
            rintro e _ ⟨rfl, rfl⟩
            have hcl := crcL_lt l1 (r := 65535) (by omega)
            have hhi := hiB_val hcl
            have hlo := loB_val2 hcl
            generalize crcL 65535 l1 = cr at *
            generalize hiB cr = hb at *
            generalize loB cr = lb at *
            go_wp2_with (at_builtin; go_must (refine wpList_appendV elem_u8 (fun _ => rfl) rfl (.tmp 79) (.tmp 86) rfl wo.heap.size (.slice Y4 l1.length c4) l1 rfl (ho4.ext ((Ext.refl w4).alloc _)) _ [hb, lb] rfl (OwnV_new2 (f := bv) w4 hb lb _).inV (by simp; omega) (by omega) (by have := hE4.size; simp; omega) (Hold.out ?_)))
            refine Hold.mk fun v5 w5 ho5 hg => ?_
            have hE5 := hg.ext (hE4.alloc _) ho4.ge
            clear hg hhi hlo hcl
            have ly5 : (l1 ++ [hb, lb]).length ≤ 7100 := by simp; omega
            obtain ⟨Y5, c5, rfl, _, _⟩ := ho5.inV
            generalize l1 ++ [hb, lb] = ly at *
            have ix5 := ho.inV.ext hE5
            obtain ⟨A6, c6, hsl6, hin6⟩ := preB ix5 (N - 2) (by have := HLY.out; omega)
            have hN2 : ((N - 2 : Nat) : Int) = (N : Int) - 2 := by omega
            rw [hN2] at hsl6
            have HL2 : Hid ((lx.take (N - 2)).length = N - 2) := Lib.hid (by have := HLY.out; simp; omega)
            generalize lx.take (N - 2) = l2 at *
            have ll2 : l2.length ≤ 7000 := by have := HL2.out; omega
            clear hN2 ho4 hE4 hin3 hsl3
            go_wp2_with (at_builtin; go_must (refine wpList_appendV elem_u8 (fun _ => rfl) rfl (.tmp 88) (.tmp 93) rfl w5.heap.size _ [] rfl (own_empty w5 _ rfl).toV _ l2 rfl (hin6.ext ((Ext.refl w5).alloc _)) (by simp; omega) (by omega) (by simp) (Hold.out ?_)))
            refine Hold.mk fun v6 w6 ho6 hg => ?_
            have hE6 := hg.ext ((Ext.refl w5).alloc _) (fun k hk => by simp only [Value.ownBlock, Option.some.injEq] at hk; omega)
            clear hg
            obtain ⟨Y6, c6', rfl, _, _⟩ := ho6.inV
            go_wp2_with fail
            refine (refSum_any _ l2 w6 ho6.inV (by omega)).mono ?_
            rintro e _ ⟨rfl, rfl⟩
            have hcl := crcL_lt l2 (r := 65535) (by omega)
            have hhi := hiB_val hcl
            have hlo := loB_val2 hcl
            generalize crcL 65535 l2 = cr at *
            generalize hiB cr = hb at *
            generalize loB cr = lb at *
            go_wp2_with (at_builtin; go_must (refine wpList_appendV elem_u8 (fun _ => rfl) rfl (.tmp 97) (.tmp 104) rfl w5.heap.size (.slice Y6 l2.length c6') l2 rfl (ho6.ext ((Ext.refl w6).alloc _)) _ [hb, lb] rfl (OwnV_new2 (f := bv) w6 hb lb _).inV (by simp; omega) (by omega) (by have := hE6.size; simp; omega) (Hold.out ?_)))
            refine Hold.mk fun v7 w7 ho7 hg => ?_
            have hE7 := hg.ext (hE6.alloc _) ho6.ge
            clear hg hhi hlo hcl
            have ly7 : (l2 ++ [hb, lb]).length ≤ 7100 := by simp; omega
            obtain ⟨Y7, c7, rfl, _, _⟩ := ho7.inV
            generalize l2 ++ [hb, lb] = lz at *
            have hEb : Ext w2 w7 := (hx.trans hE5).trans hE7
            have s1 : InB w7 (.slice R raw.length rc) raw := hU.ext (hE2.trans hEb)
            have s2 : InB w7 (.slice Y2 N c2) en := ib.ext hEb
            have s3 : InB w7 (.slice (some ⟨gx, 0, none⟩) N cx) lx := ix5.ext hE7
            have s4 : InB w7 (.slice Y5 ly.length c5) ly := ho5.inV.ext hE7
            have s5 : InB w7 (.slice Y7 lz.length c7) lz := ho7.inV
            have z2 : en.length ≤ 100000 := by have := HLX.out; omega
            have z3 : lx.length ≤ 100000 := by have := HLY.out; omega
            have hEw := hE2.trans hEb
            clear ho5 ho6 ho7 hE5 hE6 hE7 hin6 hsl6 ix5 hEb ho hx
            go_wp2_with fail
            have hbt := heap_alloc_new w7 (.cells #[.slice R raw.length rc, .slice Y2 N c2, .slice (some ⟨gx, 0, none⟩) N cx, .slice Y5 ly.length c5, .slice Y7 lz.length c7] 22)
            have hat := (Ext.refl w7).alloc (.cells #[.slice R raw.length rc, .slice Y2 N c2, .slice (some ⟨gx, 0, none⟩) N cx, .slice Y5 ly.length c5, .slice Y7 lz.length c7] 22)
            generalize w7.alloc (.cells #[.slice R raw.length rc, .slice Y2 N c2, .slice (some ⟨gx, 0, none⟩) N cx, .slice Y5 ly.length c5, .slice Y7 lz.length c7] 22) = w8 at *
            generalize w7.heap.size = gt at *
            have hRW : ∀ j, j < 5 → RowB w8 gt j := by
              intro j hj
              rcases (show j = 0 ∨ j = 1 ∨ j = 2 ∨ j = 3 ∨ j = 4 by omega) with rfl | rfl | rfl | rfl | rfl
              · exact ⟨_, raw, blk_at hbt 0 _ rfl, s1.ext hat, by omega⟩
              · exact ⟨_, en, blk_at hbt 1 _ rfl, s2.ext hat, z2⟩
              · exact ⟨_, lx, blk_at hbt 2 _ rfl, s3.ext hat, z3⟩
              · exact ⟨_, ly, blk_at hbt 3 _ rfl, s4.ext hat, by omega⟩
              · exact ⟨_, lz, blk_at hbt 4 _ rfl, s5.ext hat, by omega⟩
            have HRW := Lib.hid hRW
            have hEw8 := hEw.trans hat
            clear hRW hbt hat s1 s2 s3 s4 s5 hEw
            go_loopw [113] (fun i wr => ∃ j : Nat, j ≤ 5 ∧ i = .int .i64 (j : Int) ∧ Ext w8 wr) (fun i _ => 5 - (intOf i).toNat)
            case atStart => exact ⟨0, by omega, rfl, Ext.refl w8⟩
            case round =>
              obtain ⟨j, hj, rfl, hE9⟩ := hrel
              obtain ⟨wq, rfl⟩ : ∃ wq : World, wq = wr := ⟨_, rfl⟩
              by_cases hj5 : j < 5
              · obtain ⟨yj, lj, hcj, hij, hlj⟩ := (HRW.out j hj5).ext hE9
                have hj5' : (j : Int) < 5 := by omega
                obtain ⟨Yj, cj, rfl, _, _⟩ := id hij
                go_wp2_with fail
                refine (Decode_any _ lj wq hij (by omega)).mono ?_
                rintro e w10 ⟨v10, p10, er10, rfl, hd10, hpo10, he10⟩
                obtain ⟨y10, rfl, hy10⟩ := hpo10
                obtain ⟨Y10, c10, rfl, _, _⟩ := hy10.inV
                have hP10 : PktAt w10 (.agg #[.int .i64 p10.kind, .int .i64 p10.src, .int .i64 p10.dst, .int .i64 p10.seq, .int .i64 p10.ack, .slice Y10 p10.body.length c10]) p10 := ⟨_, rfl, hy10.inV⟩
                clear hy10
                go_wp2_with fail
                have hb10 := heap_alloc_new w10 (.cells #[.int .i64 p10.kind, .int .i64 p10.src, .int .i64 p10.dst, .int .i64 p10.seq, .int .i64 p10.ack, .slice Y10 p10.body.length c10] 39)
                have ha10 := (Ext.refl w10).alloc (.cells #[.int .i64 p10.kind, .int .i64 p10.src, .int .i64 p10.dst, .int .i64 p10.seq, .int .i64 p10.ack, .slice Y10 p10.body.length c10] 39)
                generalize w10.alloc (.cells #[.int .i64 p10.kind, .int .i64 p10.src, .int .i64 p10.dst, .int .i64 p10.seq, .int .i64 p10.ack, .slice Y10 p10.body.length c10] 39) = w11 at *
                generalize w10.heap.size = ga at *
                have hP11 := hP10.ext ha10
                have hE11 := (hE9.trans he10).trans ha10
                have hij11 := hij.ext (he10.trans ha10)
                clear hP10 ha10 he10 hE9 hcj
                refine (refDecode_any _ lj w11 hij11 (by omega)).mono ?_
                rintro e w12 ⟨v12, p12, er12, rfl, hd12, hpo12, he12⟩
                obtain ⟨rfl, rfl⟩ := hd10.one hd12
                obtain ⟨y12, rfl, hy12⟩ := hpo12
                obtain ⟨Y12, c12, rfl, _, _⟩ := hy12.inV
                have hP12 : PktAt w12 (.agg #[.int .i64 p10.kind, .int .i64 p10.src, .int .i64 p10.dst, .int .i64 p10.seq, .int .i64 p10.ack, .slice Y12 p10.body.length c12]) p10 := ⟨_, rfl, hy12.inV⟩
                have hP13 := hP11.ext he12
                have hb12 := he12.heap hb10
                have hE12 := hE11.trans he12
                clear hy12 hP11 hb10 hE11 he12 hd10 hd12 hij hij11
                obtain ⟨q0, q1, q2, q3, q4, q5⟩ := blk6 hb12
                have lt12 := World.block_lt_of_cell? _ _ q0
                simp only at lt12
                have ne : (er10 != er10) = false := by simp
                go_wp2_with fail
                have ha12 := (Ext.refl w12).alloc (.cells #[.int .i64 p10.kind, .int .i64 p10.src, .int .i64 p10.dst, .int .i64 p10.seq, .int .i64 p10.ack, .slice Y12 p10.body.length c12] 39)
                generalize w12.alloc (.cells #[.int .i64 p10.kind, .int .i64 p10.src, .int .i64 p10.dst, .int .i64 p10.seq, .int .i64 p10.ack, .slice Y12 p10.body.length c12] 39) = w13 at *
                refine (Same_any _ _ p10 p10 w13 (hP13.ext ha12) (hP12.ext ha12)).mono ?_
                rintro e w14 ⟨r14, rfl, hr14, he14⟩
                obtain rfl : r14 = true := hr14.2 rfl
                have hE14 := (hE12.trans ha12).trans he14
                clear hr14 ha12 he14 hP12 hP13 hb12 q0 q1 q2 q3 q4 q5 lt12 ne
                go_wp2_with fail
                go_roundw
                case rel => exact ⟨j + 1, by omega, by go_num, hE14⟩
                case measure => simp [intOf]; omega
              · go_wp2_with fail
                refine (awake33_any wq).mono ?_
                rintro e w15 ⟨rfl, he15⟩
                go_wp2
                go_ret
                exact ⟨rfl, (hEw8.trans hE9).trans he15⟩
        · have t1 : decide ((k : Int) < (at_.length : Int)) = false := by simp; omega
          go_wp2_with fail
          refine (Mod_any cut ((N : Int) - 1) wo (by omega) (by omega)).mono ?_
          rintro e w4 ⟨rfl, rfl⟩
          have m0 := Int.emod_nonneg cut (show (N : Int) - 1 ≠ 0 by omega)
          have m1 := Int.emod_lt_of_pos cut (show (0 : Int) < (N : Int) - 1 by omega)
          obtain ⟨nn, hnn⟩ := Int.eq_ofNat_of_zero_le m0
          rw [hnn] at m1 ⊢
          clear hnn m0
          have hnl : nn ≤ lx.length := by have := HLY.out; omega
          obtain ⟨A3, c3, hsl3, hin3⟩ := preB ho.inV nn hnl
          have HL1 : Hid ((lx.take nn).length = nn) := Lib.hid (by simp; omega)
          generalize lx.take nn = l1 at *
          have ll1 : l1.length ≤ 7000 := by have := HL1.out; omega
          go_wp2_with (at_builtin; go_must (refine wpList_appendV elem_u8 (fun _ => rfl) rfl (.tmp 72) (.tmp 75) rfl wo.heap.size _ [] rfl (own_empty wo _ rfl).toV _ l1 rfl (hin3.ext ((Ext.refl wo).alloc _)) (by simp; omega) (by omega) (by simp) (Hold.out ?_)))
          refine Hold.mk fun v4 w4 ho4 hg => ?_
          have hE4 := hg.ext ((Ext.refl wo).alloc _) (fun k hk => by simp only [Value.ownBlock, Option.some.injEq] at hk; omega)
          clear hg
          obtain ⟨Y4, c4, rfl, _, _⟩ := ho4.inV
          go_wp2_with fail
          refine (refSum_any _ l1 w4 ho4.inV (by omega)).mono ?_
          rintro e _ ⟨rfl, rfl⟩
          have hcl := crcL_lt l1 (r := 65535) (by omega)
          have hhi := hiB_val hcl
          have hlo := loB_val2 hcl
          generalize crcL 65535 l1 = cr at *
          generalize hiB cr = hb at *
          generalize loB cr = lb at *
          go_wp2_with (at_builtin; go_must (refine wpList_appendV elem_u8 (fun _ => rfl) rfl (.tmp 79) (.tmp 86) rfl wo.heap.size (.slice Y4 l1.length c4) l1 rfl (ho4.ext ((Ext.refl w4).alloc _)) _ [hb, lb] rfl (OwnV_new2 (f := bv) w4 hb lb _).inV (by simp; omega) (by omega) (by have := hE4.size; simp; omega) (Hold.out ?_)))
          refine Hold.mk fun v5 w5 ho5 hg => ?_
          have hE5 := hg.ext (hE4.alloc _) ho4.ge
          clear hg hhi hlo hcl
          have ly5 : (l1 ++ [hb, lb]).length ≤ 7100 := by simp; omega
          obtain ⟨Y5, c5, rfl, _, _⟩ := ho5.inV
          generalize l1 ++ [hb, lb] = ly at *
          have ix5 := ho.inV.ext hE5
          obtain ⟨A6, c6, hsl6, hin6⟩ := preB ix5 (N - 2) (by have := HLY.out; omega)
          have hN2 : ((N - 2 : Nat) : Int) = (N : Int) - 2 := by omega
          rw [hN2] at hsl6
          have HL2 : Hid ((lx.take (N - 2)).length = N - 2) := Lib.hid (by have := HLY.out; simp; omega)
          generalize lx.take (N - 2) = l2 at *
          have ll2 : l2.length ≤ 7000 := by have := HL2.out; omega
          clear hN2 ho4 hE4 hin3 hsl3
          go_wp2_with (at_builtin; go_must (refine wpList_appendV elem_u8 (fun _ => rfl) rfl (.tmp 88) (.tmp 93) rfl w5.heap.size _ [] rfl (own_empty w5 _ rfl).toV _ l2 rfl (hin6.ext ((Ext.refl w5).alloc _)) (by simp; omega) (by omega) (by simp) (Hold.out ?_)))
          refine Hold.mk fun v6 w6 ho6 hg => ?_
          have hE6 := hg.ext ((Ext.refl w5).alloc _) (fun k hk => by simp only [Value.ownBlock, Option.some.injEq] at hk; omega)
          clear hg
          obtain ⟨Y6, c6', rfl, _, _⟩ := ho6.inV
          go_wp2_with fail
          refine (refSum_any _ l2 w6 ho6.inV (by omega)).mono ?_
          rintro e _ ⟨rfl, rfl⟩
          have hcl := crcL_lt l2 (r := 65535) (by omega)
          have hhi := hiB_val hcl
          have hlo := loB_val2 hcl
          generalize crcL 65535 l2 = cr at *
          generalize hiB cr = hb at *
          generalize loB cr = lb at *
          go_wp2_with (at_builtin; go_must (refine wpList_appendV elem_u8 (fun _ => rfl) rfl (.tmp 97) (.tmp 104) rfl w5.heap.size (.slice Y6 l2.length c6') l2 rfl (ho6.ext ((Ext.refl w6).alloc _)) _ [hb, lb] rfl (OwnV_new2 (f := bv) w6 hb lb _).inV (by simp; omega) (by omega) (by have := hE6.size; simp; omega) (Hold.out ?_)))
          refine Hold.mk fun v7 w7 ho7 hg => ?_
          have hE7 := hg.ext (hE6.alloc _) ho6.ge
          clear hg hhi hlo hcl
          have ly7 : (l2 ++ [hb, lb]).length ≤ 7100 := by simp; omega
          obtain ⟨Y7, c7, rfl, _, _⟩ := ho7.inV
          generalize l2 ++ [hb, lb] = lz at *
          have hEb : Ext w2 w7 := (hx.trans hE5).trans hE7
          have s1 : InB w7 (.slice R raw.length rc) raw := hU.ext (hE2.trans hEb)
          have s2 : InB w7 (.slice Y2 N c2) en := ib.ext hEb
          have s3 : InB w7 (.slice (some ⟨gx, 0, none⟩) N cx) lx := ix5.ext hE7
          have s4 : InB w7 (.slice Y5 ly.length c5) ly := ho5.inV.ext hE7
          have s5 : InB w7 (.slice Y7 lz.length c7) lz := ho7.inV
          have z2 : en.length ≤ 100000 := by have := HLX.out; omega
          have z3 : lx.length ≤ 100000 := by have := HLY.out; omega
          have hEw := hE2.trans hEb
          clear ho5 ho6 ho7 hE5 hE6 hE7 hin6 hsl6 ix5 hEb ho hx
          go_wp2_with fail
          have hbt := heap_alloc_new w7 (.cells #[.slice R raw.length rc, .slice Y2 N c2, .slice (some ⟨gx, 0, none⟩) N cx, .slice Y5 ly.length c5, .slice Y7 lz.length c7] 22)
          have hat := (Ext.refl w7).alloc (.cells #[.slice R raw.length rc, .slice Y2 N c2, .slice (some ⟨gx, 0, none⟩) N cx, .slice Y5 ly.length c5, .slice Y7 lz.length c7] 22)
          generalize w7.alloc (.cells #[.slice R raw.length rc, .slice Y2 N c2, .slice (some ⟨gx, 0, none⟩) N cx, .slice Y5 ly.length c5, .slice Y7 lz.length c7] 22) = w8 at *
          generalize w7.heap.size = gt at *
          have hRW : ∀ j, j < 5 → RowB w8 gt j := by
            intro j hj
            rcases (show j = 0 ∨ j = 1 ∨ j = 2 ∨ j = 3 ∨ j = 4 by omega) with rfl | rfl | rfl | rfl | rfl
            · exact ⟨_, raw, blk_at hbt 0 _ rfl, s1.ext hat, by omega⟩
            · exact ⟨_, en, blk_at hbt 1 _ rfl, s2.ext hat, z2⟩
            · exact ⟨_, lx, blk_at hbt 2 _ rfl, s3.ext hat, z3⟩
            · exact ⟨_, ly, blk_at hbt 3 _ rfl, s4.ext hat, by omega⟩
            · exact ⟨_, lz, blk_at hbt 4 _ rfl, s5.ext hat, by omega⟩
          have HRW := Lib.hid hRW
          have hEw8 := hEw.trans hat
          clear hRW hbt hat s1 s2 s3 s4 s5 hEw
          go_loopw [113] (fun i wr => ∃ j : Nat, j ≤ 5 ∧ i = .int .i64 (j : Int) ∧ Ext w8 wr) (fun i _ => 5 - (intOf i).toNat)
          case atStart => exact ⟨0, by omega, rfl, Ext.refl w8⟩
          case round =>
            obtain ⟨j, hj, rfl, hE9⟩ := hrel
            obtain ⟨wq, rfl⟩ : ∃ wq : World, wq = wr := ⟨_, rfl⟩
            by_cases hj5 : j < 5
            · obtain ⟨yj, lj, hcj, hij, hlj⟩ := (HRW.out j hj5).ext hE9
              have hj5' : (j : Int) < 5 := by omega
              obtain ⟨Yj, cj, rfl, _, _⟩ := id hij
              go_wp2_with fail
              refine (Decode_any _ lj wq hij (by omega)).mono ?_
              rintro e w10 ⟨v10, p10, er10, rfl, hd10, hpo10, he10⟩
              obtain ⟨y10, rfl, hy10⟩ := hpo10
              obtain ⟨Y10, c10, rfl, _, _⟩ := hy10.inV
              have hP10 : PktAt w10 (.agg #[.int .i64 p10.kind, .int .i64 p10.src, .int .i64 p10.dst, .int .i64 p10.seq, .int .i64 p10.ack, .slice Y10 p10.body.length c10]) p10 := ⟨_, rfl, hy10.inV⟩
              clear hy10
              go_wp2_with fail
              have hb10 := heap_alloc_new w10 (.cells #[.int .i64 p10.kind, .int .i64 p10.src, .int .i64 p10.dst, .int .i64 p10.seq, .int .i64 p10.ack, .slice Y10 p10.body.length c10] 39)
              have ha10 := (Ext.refl w10).alloc (.cells #[.int .i64 p10.kind, .int .i64 p10.src, .int .i64 p10.dst, .int .i64 p10.seq, .int .i64 p10.ack, .slice Y10 p10.body.length c10] 39)
              generalize w10.alloc (.cells #[.int .i64 p10.kind, .int .i64 p10.src, .int .i64 p10.dst, .int .i64 p10.seq, .int .i64 p10.ack, .slice Y10 p10.body.length c10] 39) = w11 at *
              generalize w10.heap.size = ga at *
              have hP11 := hP10.ext ha10
              have hE11 := (hE9.trans he10).trans ha10
              have hij11 := hij.ext (he10.trans ha10)
              clear hP10 ha10 he10 hE9 hcj
              refine (refDecode_any _ lj w11 hij11 (by omega)).mono ?_
              rintro e w12 ⟨v12, p12, er12, rfl, hd12, hpo12, he12⟩
              obtain ⟨rfl, rfl⟩ := hd10.one hd12
              obtain ⟨y12, rfl, hy12⟩ := hpo12
              obtain ⟨Y12, c12, rfl, _, _⟩ := hy12.inV
              have hP12 : PktAt w12 (.agg #[.int .i64 p10.kind, .int .i64 p10.src, .int .i64 p10.dst, .int .i64 p10.seq, .int .i64 p10.ack, .slice Y12 p10.body.length c12]) p10 := ⟨_, rfl, hy12.inV⟩
              have hP13 := hP11.ext he12
              have hb12 := he12.heap hb10
              have hE12 := hE11.trans he12
              clear hy12 hP11 hb10 hE11 he12 hd10 hd12 hij hij11
              obtain ⟨q0, q1, q2, q3, q4, q5⟩ := blk6 hb12
              have lt12 := World.block_lt_of_cell? _ _ q0
              simp only at lt12
              have ne : (er10 != er10) = false := by simp
              go_wp2_with fail
              have ha12 := (Ext.refl w12).alloc (.cells #[.int .i64 p10.kind, .int .i64 p10.src, .int .i64 p10.dst, .int .i64 p10.seq, .int .i64 p10.ack, .slice Y12 p10.body.length c12] 39)
              generalize w12.alloc (.cells #[.int .i64 p10.kind, .int .i64 p10.src, .int .i64 p10.dst, .int .i64 p10.seq, .int .i64 p10.ack, .slice Y12 p10.body.length c12] 39) = w13 at *
              refine (Same_any _ _ p10 p10 w13 (hP13.ext ha12) (hP12.ext ha12)).mono ?_
              rintro e w14 ⟨r14, rfl, hr14, he14⟩
              obtain rfl : r14 = true := hr14.2 rfl
              have hE14 := (hE12.trans ha12).trans he14
              clear hr14 ha12 he14 hP12 hP13 hb12 q0 q1 q2 q3 q4 q5 lt12 ne
              go_wp2_with fail
              go_roundw
              case rel => exact ⟨j + 1, by omega, by go_num, hE14⟩
              case measure => simp [intOf]; omega
            · go_wp2_with fail
              refine (awake33_any wq).mono ?_
              rintro e w15 ⟨rfl, he15⟩
              go_wp2
              go_ret
              exact ⟨rfl, (hEw8.trans hE9).trans he15⟩
end Go.Proofs.Ytoeibcpjmoekpaa
