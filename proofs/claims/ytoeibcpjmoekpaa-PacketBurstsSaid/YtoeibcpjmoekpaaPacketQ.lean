/- PacketBursts, walked. -/
import Derived.Test.YtoeibcpjmoekpaaPacketP
import Derived.Test.YtoeibcpjmoekpaaBurst2
namespace Go.Proofs.Ytoeibcpjmoekpaa
open Go.RowKit
set_option linter.unusedVariables false

theorem near_len (p : Pkt) : (nearP p 11).body.length ≤ p.body.length := by
  have e : nearP p 11 = p1P p := by
    unfold nearP swP
    rw [if_neg (by decide), if_neg (by decide), if_neg (by decide), if_neg (by decide)]
  rw [e]
  unfold p1P
  split
  · exact Nat.le_refl _
  · exact Nat.zero_le _

theorem u8_xor_nat (x y : Nat) (hx : x < 256) (hy : y < 256) : bits .xor .u8 (x : Int) (y : Int) = ((x ^^^ y : Nat) : Int) := by
  have e1 : ∀ z : Nat, z < 256 → ∀ n, n = 8 ∨ n = 64 → ((z : Int) % ((2 ^ n : Nat) : Int)).toNat = z := fun z hz n hn => by
    rcases hn with rfl | rfl <;> omega
  have h : x ^^^ y < 2 ^ 8 := Nat.xor_lt_two_pow (by omega) (by omega)
  first
  | (show IntKind.u8.wrap ((BitVec.ofInt 8 (x : Int) ^^^ BitVec.ofInt 8 (y : Int)).toNat : Int) = _
     rw [BitVec.toNat_xor, BitVec.toNat_ofInt, BitVec.toNat_ofInt, e1 x hx 8 (Or.inl rfl), e1 y hy 8 (Or.inl rfl)]
     simp only [IntKind.wrap, IntKind.bits, IntKind.signed]
     simp
     omega)
  | (show IntKind.u8.wrap ((BitVec.ofInt 64 (x : Int) ^^^ BitVec.ofInt 64 (y : Int)).toNat : Int) = _
     rw [BitVec.toNat_xor, BitVec.toNat_ofInt, BitVec.toNat_ofInt, e1 x hx 64 (Or.inr rfl), e1 y hy 64 (Or.inr rfl)]
     simp only [IntKind.wrap, IntKind.bits, IntKind.signed]
     simp
     omega)
theorem u8_flip (a : UInt8) (r : Nat) (hr : r < 8) : bits .xor .u8 (a.toNat : Int) (128 / 2 ^ r) = ((a.toNat ^^^ 2 ^ (7 - r) : Nat) : Int) := by
  have h := a.toNat_lt
  have e : (128 : Int) / 2 ^ r = ((2 ^ (7 - r) : Nat) : Int) := by
    rcases (show r = 0 ∨ r = 1 ∨ r = 2 ∨ r = 3 ∨ r = 4 ∨ r = 5 ∨ r = 6 ∨ r = 7 by omega) with rfl | rfl | rfl | rfl | rfl | rfl | rfl | rfl <;> decide
  rw [e]
  exact u8_xor_nat _ _ (by omega) (Nat.lt_of_le_of_lt (Nat.pow_le_pow_right (by omega) (show 7 - r ≤ 7 by omega)) (by decide))

set_option maxHeartbeats 4000000 in
set_option maxRecDepth 100000 in
theorem bursts_walk (v : Value) (p : Pkt) (at_ mask : Int) (w : World) (hp : PktAt w v p) (hlp : p.body.length ≤ 9223372036854775807) :
    Calls Try.prog 7 #[v, .int .i64 at_, .int .i64 mask] w fun e w' => e = .returned (.bool true) ∧ Ext w w' := by
  have hP := hp
  obtain ⟨y, rfl, ⟨A, c, rfl, hcap, hr⟩⟩ := hp
  go_enter Try.func7, Try.ntmps7
  go_upto_region 1 with fail
  obtain ⟨W, hW, hE, hB⟩ : ∃ W, W = w.alloc (.cells #[.int .i64 p.kind, .int .i64 p.src, .int .i64 p.dst, .int .i64 p.seq, .int .i64 p.ack, .slice A p.body.length c] 39) ∧ Ext w W ∧ W.heap[w.heap.size]? = some (.cells #[.int .i64 p.kind, .int .i64 p.src, .int .i64 p.dst, .int .i64 p.seq, .int .i64 p.ack, .slice A p.body.length c] 39 (0, 0)) := ⟨_, rfl, (Ext.refl w).alloc _, heap_alloc_new w _⟩
  rw [← hW]
  clear hW
  obtain ⟨q0, q1, q2, q3, q4, q5⟩ := blk6 hB
  go_wp2_with fail
  refine (near_any _ p 11 W (hP.ext hE)).mono ?_
  rintro e w1 ⟨v1, rfl, hp1, he1⟩
  have hE1 := hE.trans he1
  have hB1 := he1.heap hB
  have NL := near_len p
  have HR : Hid (p.body.length ≤ 6000 → rightP (nearP p 11)) := Lib.hid (near_right p)
  generalize nearP p 11 = p1 at *
  clear q0 q1 q2 q3 q4 q5 hE he1 hB
  go_wp2_with fail
  refine (Encode_any _ p1 w1 hp1 (by omega)).mono ?_
  rintro e w2 ⟨y2, er2, rfl, hc2, he2⟩
  have hE2 := hE1.trans he2
  have hB2 := he2.heap hB1
  obtain ⟨q0, q1, q2, q3, q4, q5⟩ := blk6 hB2
  clear hE1 hB1 hB2
  by_cases hbig : 300 < p.body.length
  · have t1 : decide ((300 : Int) < (p.body.length : Int)) = true := by first | (simpa using hbig) | (simp; omega)
    clear hc2 HR hp1 he2
    go_wp2_with fail
    refine (awake33_any w2).mono ?_
    rintro e w9 ⟨rfl, he9⟩
    go_wp2
    go_ret
    exact ⟨rfl, hE2.trans he9⟩
  have t1 : decide ((300 : Int) < (p.body.length : Int)) = false := by first | (simpa using hbig) | (simp; omega)
  have R1 := Lib.hid (HR.out (by omega))
  obtain ⟨rfl, ho2⟩ : er2 = 0 ∧ OwnV bv 5 w1.heap.size w2 y2 (encP p1) := by
    rcases hc2 with ⟨_, h1, h2⟩ | ⟨hR', _, _⟩
    · exact ⟨h1, h2⟩
    · exact absurd R1.out hR'
  obtain ⟨le1, le2⟩ := enc_len R1.out
  have HC := Lib.hid (enc_crc p1)
  have ib := ho2.inV
  clear hp1 hc2 he2 ho2 R1 HR
  generalize encP p1 = en at *
  obtain ⟨Y2, c2, rfl, _, _⟩ := id ib
  have t2 : decide ((en.length : Int) < 4) = false := by simp; omega
  go_wp2_with (at_builtin; go_must (refine wpList_appendV elem_u8 (fun _ => rfl) rfl (.tmp 32) (.tmp 33) rfl w2.heap.size _ [] rfl (own_empty w2 _ rfl).toV _ en rfl (ib.ext ((Ext.refl w2).alloc _)) (by simp; omega) (by omega) (by simp) (Hold.out ?_)))
  refine Hold.mk fun v3 w3 ho3 hg => ?_
  have hE3 := hg.ext ((Ext.refl w2).alloc _) (fun k hk => by simp only [Value.ownBlock, Option.some.injEq] at hk; omega)
  clear hg q0 q1 q2 q3 q4 q5 t2 t1
  obtain ⟨gx, cx, rfl, hgx1, hgx2⟩ := ho3.form (by simpa using (by omega : 0 < en.length))
  generalize hlx : en.length = N at *
  have HLX := Lib.hid hlx
  clear hlx
  go_wp2_with fail
  refine (Mod_any at_ ((N : Int) * 8) w3 (by omega) (by omega)).mono ?_
  rintro e w4 ⟨rfl, rfl⟩
  have m0 := Int.emod_nonneg at_ (show (N : Int) * 8 ≠ 0 by omega)
  have m1 := Int.emod_lt_of_pos at_ (show (0 : Int) < (N : Int) * 8 by omega)
  obtain ⟨bit, hbit⟩ := Int.eq_ofNat_of_zero_le m0
  rw [hbit] at m1 ⊢
  clear hbit m0
  go_wp2_with fail
  obtain ⟨mb, hmb⟩ : ∃ mb : Nat → Bool, ∀ k, (bits BinOp.and IntKind.i64 (mask / 2 ^ k) 1 == 1) = mb k := ⟨fun k => (bits BinOp.and IntKind.i64 (mask / 2 ^ k) 1 == 1), fun _ => rfl⟩
  have HMB := Lib.hid hmb
  clear hmb
  go_loopw [11] (fun i wr => ∃ (k : Nat) (lx : List UInt8), k ≤ 16 ∧ i = .int .i64 (k : Int) ∧ lx.length = N ∧ OwnV bv 5 w2.heap.size wr (.slice (some ⟨gx, 0, none⟩) N cx) lx ∧ Ext w2 wr ∧ Hid (∀ i, i < 8 * N → bitAt lx i = xor (bitAt en i) (decide (bit ≤ i ∧ i < bit + k) && mb (i - bit)))) (fun i _ => 16 - (intOf i).toNat)
  case atStart => exact ⟨0, en, by omega, rfl, HLX.out, ho3, hE3, Lib.hid (fun i hi => by rw [decide_eq_false (by omega)]; simp)⟩
  case round =>
    clear ho3 hE3
    obtain ⟨k, lx, hk, rfl, hlx, ho, hx, HX⟩ := hrel
    have HLY := Lib.hid hlx
    clear hlx
    obtain ⟨wo, rfl⟩ : ∃ wo : World, wo = wr := ⟨_, rfl⟩
    by_cases hl3 : k < 16 ∧ bit + k < N * 8
    · have t2 : decide ((k : Int) < 16) = true := by simp; omega
      have t3 : decide ((bit : Int) + (k : Int) < (N : Int) * 8) = true := by simp; omega
      have hmm := HMB.out k
      cases hq : mb k with
      | false =>
        rw [hq] at hmm
        go_wp2_with fail
        go_roundw
        case rel => exact ⟨k + 1, lx, by omega, by go_num, HLY.out, ho, hx, Lib.hid (fun i hi => by
          rw [HX.out i hi]
          by_cases e : i = bit + k
          · subst e
            rw [show bit + k - bit = k by omega, hq]
            simp
          · rw [show decide (bit ≤ i ∧ i < bit + (k + 1)) = decide (bit ≤ i ∧ i < bit + k) from decide_eq_decide.mpr ⟨fun h => by omega, fun h => by omega⟩])⟩
        case measure => simp [intOf]; omega
      | true =>
        rw [hq] at hmm
        obtain ⟨mm, hmm8⟩ : ∃ mm, (bit + k) / 8 = mm := ⟨_, rfl⟩
        have hmN : mm < lx.length := by have := HLY.out; omega
        obtain ⟨hcm, hfm⟩ := ho.at_ HLY.out.symm mm hmN
        unfold bv at hcm
        have HM8 := Lib.hid hmm8
        obtain ⟨cc, hcc⟩ := xor_byte ((lx[mm].toNat : Nat) : Int) (128 / 2 ^ ((bit + k) % 8))
        have hput := ho.put HLY.out.symm mm cc
        have hx2 := hx.setCell (p := ⟨gx, mm, none⟩) hgx1 (bv cc)
        obtain ⟨ho2, _⟩ := hput
        unfold bv at ho2 hx2
        have HCC : Hid (cc.toNat = lx[mm].toNat ^^^ 2 ^ (7 - (bit + k) % 8)) := Lib.hid (by
          rw [u8_flip _ _ (by omega)] at hcc
          exact (Int.ofNat.inj hcc).symm)
        go_wp2_with fail
        go_roundw
        case rel => exact ⟨k + 1, lx.set mm cc, by omega, by go_num, by rw [List.length_set]; exact HLY.out, ho2, hx2, Lib.hid (fun i hi => by
          have hm := HM8.out
          subst hm
          rw [bitAt_flip hmN cc HCC.out, HX.out i hi]
          by_cases e : i = bit + k
          · subst e
            rw [show bit + k - bit = k by omega, hq]
            simp
          · rw [decide_eq_false e, show decide (bit ≤ i ∧ i < bit + (k + 1)) = decide (bit ≤ i ∧ i < bit + k) from decide_eq_decide.mpr ⟨fun h => by omega, fun h => by omega⟩]
            simp)⟩
        case measure => simp [intOf]; omega
    · have HLAW : Hid (crcOK lx → lx = en) := Lib.hid (fun h => by
        have e1 := HLX.out
        have e2 := HLY.out
        exact burst_law (by omega) (by omega) bit (fun i => decide (bit ≤ i ∧ i < bit + k) && mb (i - bit)) (by omega) (fun i h => by simp at h; omega) (fun i hi => HX.out i (by omega)) HC.out h)
      by_cases e1 : k < 16
      · have t1 : decide ((k : Int) < 16) = true := by simp; omega
        have t2 : decide ((bit : Int) + (k : Int) < (N : Int) * 8) = false := by simp; omega
        have ix := ho.inV
        clear hl3 HX
        have zl : lx.length ≤ 6060 := by have := HLY.out; omega
        have zl3 : 3 ≤ lx.length := by have := HLY.out; omega
        go_wp2_with fail
        refine (Decode_any _ lx wo ix (by omega)).mono ?_
        rintro e w10 ⟨v10, p10, er10, rfl, hd10, hpo10, he10⟩
        obtain ⟨y10, rfl, hy10⟩ := hpo10
        obtain ⟨Y10, c10, rfl, _, _⟩ := hy10.inV
        have HD : Hid (lx = en ∨ er10 = 28) := Lib.hid (by
          rcases hd10 with ⟨a1, a2, a3⟩ | ⟨a1, a2, a3, a4⟩ | ⟨a1, a2, a3, a4⟩
          · omega
          · exact Or.inr a4
          · exact Or.inl (HLAW.out a3))
        have ix2 := ix.ext he10
        have ib2 := ib.ext (hx.trans he10)
        have hEE := (hE2.trans hx).trans he10
        clear hd10 hy10 he10 ho hx HLAW ix
        go_upto_region 14 with fail
        have ha10 := (Ext.refl w10).alloc (.cells #[.int .i64 p10.kind, .int .i64 p10.src, .int .i64 p10.dst, .int .i64 p10.seq, .int .i64 p10.ack, .slice Y10 p10.body.length c10] 39)
        generalize w10.alloc (.cells #[.int .i64 p10.kind, .int .i64 p10.src, .int .i64 p10.dst, .int .i64 p10.seq, .int .i64 p10.ack, .slice Y10 p10.body.length c10] 39) = w11 at *
        have hs1 := strB (ix2.ext ha10)
        have hs2 := strB (ib2.ext ha10)
        have hE11 := hEE.trans ha10
        clear ix2 ib2 ha10 hEE
        by_cases hsame : lx = en
        · subst hsame
          clear HD
          go_wp2_with fail
          refine (awake33_any w11).mono ?_
          rintro e w15 ⟨rfl, he15⟩
          go_wp2
          go_ret
          exact ⟨rfl, hE11.trans he15⟩
        · obtain rfl : er10 = 28 := HD.out.resolve_left hsame
          clear HD
          go_wp2_with fail
          refine (awake33_any w11).mono ?_
          rintro e w15 ⟨rfl, he15⟩
          go_wp2
          go_ret
          exact ⟨rfl, hE11.trans he15⟩
      · have t1 : decide ((k : Int) < 16) = false := by simp; omega
        have ix := ho.inV
        clear hl3 HX
        have zl : lx.length ≤ 6060 := by have := HLY.out; omega
        have zl3 : 3 ≤ lx.length := by have := HLY.out; omega
        go_wp2_with fail
        refine (Decode_any _ lx wo ix (by omega)).mono ?_
        rintro e w10 ⟨v10, p10, er10, rfl, hd10, hpo10, he10⟩
        obtain ⟨y10, rfl, hy10⟩ := hpo10
        obtain ⟨Y10, c10, rfl, _, _⟩ := hy10.inV
        have HD : Hid (lx = en ∨ er10 = 28) := Lib.hid (by
          rcases hd10 with ⟨a1, a2, a3⟩ | ⟨a1, a2, a3, a4⟩ | ⟨a1, a2, a3, a4⟩
          · omega
          · exact Or.inr a4
          · exact Or.inl (HLAW.out a3))
        have ix2 := ix.ext he10
        have ib2 := ib.ext (hx.trans he10)
        have hEE := (hE2.trans hx).trans he10
        clear hd10 hy10 he10 ho hx HLAW ix
        go_upto_region 14 with fail
        have ha10 := (Ext.refl w10).alloc (.cells #[.int .i64 p10.kind, .int .i64 p10.src, .int .i64 p10.dst, .int .i64 p10.seq, .int .i64 p10.ack, .slice Y10 p10.body.length c10] 39)
        generalize w10.alloc (.cells #[.int .i64 p10.kind, .int .i64 p10.src, .int .i64 p10.dst, .int .i64 p10.seq, .int .i64 p10.ack, .slice Y10 p10.body.length c10] 39) = w11 at *
        have hs1 := strB (ix2.ext ha10)
        have hs2 := strB (ib2.ext ha10)
        have hE11 := hEE.trans ha10
        clear ix2 ib2 ha10 hEE
        by_cases hsame : lx = en
        · subst hsame
          clear HD
          go_wp2_with fail
          refine (awake33_any w11).mono ?_
          rintro e w15 ⟨rfl, he15⟩
          go_wp2
          go_ret
          exact ⟨rfl, hE11.trans he15⟩
        · obtain rfl : er10 = 28 := HD.out.resolve_left hsame
          clear HD
          go_wp2_with fail
          refine (awake33_any w11).mono ?_
          rintro e w15 ⟨rfl, he15⟩
          go_wp2
          go_ret
          exact ⟨rfl, hE11.trans he15⟩
end Go.Proofs.Ytoeibcpjmoekpaa
