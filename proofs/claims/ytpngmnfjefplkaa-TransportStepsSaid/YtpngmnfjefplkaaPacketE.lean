/- The contract of the reference's Encode; slices.Equal and slices.Clone of bytes. -/
import Derived.Test.YtpngmnfjefplkaaPacketD
namespace Go.Proofs.Ytpngmnfjefplkaa
open Go.RowKit
set_option linter.unusedVariables false

theorem loB_val2 {n : Nat} (h : n < 65536) : IntKind.u8.wrap ((n : Int) % 256) = ((loB n).toNat : Int) := by
  unfold loB
  rw [ofNat_small (by omega)]
  simp [IntKind.wrap, IntKind.bits, IntKind.signed]
set_option maxHeartbeats 1000000 in
set_option maxRecDepth 100000 in
theorem refEncode_any (v : Value) (p : Pkt) (w : World) (hp : PktAt w v p) (hl : p.body.length ≤ 9223372036854775807) :
    Calls Try.prog 28 #[v] w (EncPost p w) := by
  have hP := hp
  obtain ⟨y, rfl, ⟨A, c, rfl, hcap, hr⟩⟩ := hp
  go_enter Try.func28, Try.ntmps28
  go_upto_region 1 with fail
  obtain ⟨W, hW, hE, hB⟩ : ∃ W, W = w.alloc (.cells #[.int .i64 p.kind, .int .i64 p.src, .int .i64 p.dst, .int .i64 p.seq, .int .i64 p.ack, .slice A p.body.length c] 47) ∧ Ext w W ∧ W.heap[w.heap.size]? = some (.cells #[.int .i64 p.kind, .int .i64 p.src, .int .i64 p.dst, .int .i64 p.seq, .int .i64 p.ack, .slice A p.body.length c] 47 (0, 0)) :=
    ⟨_, rfl, (Ext.refl w).alloc _, heap_alloc_new w _⟩
  rw [← hW]
  clear hW
  obtain ⟨q0, q1, q2, q3, q4, q5⟩ := blk6 hB
  go_wp2_with fail
  refine (refRight_any _ p W (hP.ext hE) hl).mono ?_
  rintro e w1 ⟨r, rfl, hr1, he1⟩
  clear q0 q1 q2 q3 q4 q5
  obtain ⟨q0, q1, q2, q3, q4, q5⟩ := blk6 (he1.heap hB)
  have lt1 := World.block_lt_of_cell? _ _ q0
  simp only at lt1
  have hE1 := hE.trans he1
  cases r with
  | false =>
    have HR : Hid (¬ rightP p) := Lib.hid (fun h => by have := hr1.2 h; cases this)
    clear hr1
    go_wp2_with fail
    go_ret2
    exact ⟨_, _, rfl, .inr ⟨HR.out, rfl, rfl⟩, hE1⟩
  | true =>
    have HR := Lib.hid (hr1.1 rfl)
    clear hr1
    have hkv := kindB_val HR.out
    have hbl : p.body.length ≤ 6000 := by have := HR.out.1; simp only [badP, not_or] at this; omega
    have HP5 := Lib.hid (preP_len HR.out)
    have HNE := Lib.hid (numE_ok HR.out)
    go_wp2_with fail
    have ho0 := (OwnV_new (f := bv) w1 (kindB p) 5).low hE1.size
    have he0 := (Ext.refl w1).alloc (.cells #[bv (kindB p)] 5)
    have hB0 := he0.heap (he1.heap hB)
    have hE0 := hE1.trans he0
    have hP0 : preP p 0 = [kindB p] := rfl
    rw [← hP0] at ho0
    unfold bv at ho0 he0 hB0 hE0
    generalize w1.alloc (.cells #[.int .u8 ((kindB p).toNat : Int)] 5) = wa0 at *
    clear hP0 he0 q0 q1 q2 q3 q4 q5 lt1 hkv
    have n0 := HNE.out 0
    simp only [numE] at n0
    have pl0 := HP5.out 0
    refine (refAppendUint_any _ (preP p 0) p.src wa0 ho0.inV (by omega) (by omega)).mono ?_
    rintro e wa1 ⟨y1, rfl, ho', he'⟩
    have ho1 : OwnV bv 5 w.heap.size wa1 y1 (preP p 1) := ho'.toV.low hE0.size
    have hE1 := hE0.trans he'
    have hB1 := he'.heap hB0
    obtain ⟨q0, q1, q2, q3, q4, q5⟩ := blk6 hB1
    clear ho' he' ho0 hB0 hE0
    go_wp2_with fail
    clear q0 q1 q2 q3 q4 q5
    have n1 := HNE.out 1
    simp only [numE] at n1
    have pl1 := HP5.out 1
    refine (refAppendUint_any _ (preP p 1) p.dst wa1 ho1.inV (by omega) (by omega)).mono ?_
    rintro e wa2 ⟨y2, rfl, ho', he'⟩
    have ho2 : OwnV bv 5 w.heap.size wa2 y2 (preP p 2) := ho'.toV.low hE1.size
    have hE2 := hE1.trans he'
    have hB2 := he'.heap hB1
    obtain ⟨q0, q1, q2, q3, q4, q5⟩ := blk6 hB2
    clear ho' he' ho1 hB1 hE1
    go_wp2_with fail
    clear q0 q1 q2 q3 q4 q5
    have n2 := HNE.out 2
    simp only [numE] at n2
    have pl2 := HP5.out 2
    refine (refAppendUint_any _ (preP p 2) p.seq wa2 ho2.inV (by omega) (by omega)).mono ?_
    rintro e wa3 ⟨y3, rfl, ho', he'⟩
    have ho3 : OwnV bv 5 w.heap.size wa3 y3 (preP p 3) := ho'.toV.low hE2.size
    have hE3 := hE2.trans he'
    have hB3 := he'.heap hB2
    obtain ⟨q0, q1, q2, q3, q4, q5⟩ := blk6 hB3
    clear ho' he' ho2 hB2 hE2
    go_wp2_with fail
    clear q0 q1 q2 q3 q4 q5
    have n3 := HNE.out 3
    simp only [numE] at n3
    have pl3 := HP5.out 3
    refine (refAppendUint_any _ (preP p 3) p.ack wa3 ho3.inV (by omega) (by omega)).mono ?_
    rintro e wa4 ⟨y4, rfl, ho', he'⟩
    have ho4 : OwnV bv 5 w.heap.size wa4 y4 (preP p 4) := ho'.toV.low hE3.size
    have hE4 := hE3.trans he'
    have hB4 := he'.heap hB3
    obtain ⟨q0, q1, q2, q3, q4, q5⟩ := blk6 hB4
    clear ho' he' ho3 hB3 hE3
    go_wp2_with fail
    clear q0 q1 q2 q3 q4 q5
    have n4 := HNE.out 4
    simp only [numE] at n4
    have pl4 := HP5.out 4
    refine (refAppendUint_any _ (preP p 4) (p.body.length : Int) wa4 ho4.inV (by omega) (by omega)).mono ?_
    rintro e wa5 ⟨y5, rfl, ho', he'⟩
    have ho5 : OwnV bv 5 w.heap.size wa5 y5 (preP p 5) := ho'.toV.low hE4.size
    have hE5 := hE4.trans he'
    have hB5 := he'.heap hB4
    obtain ⟨q0, q1, q2, q3, q4, q5⟩ := blk6 hB5
    clear ho' he' ho4 hB4 hE4
    have hpl := HP5.out 5
    have HEN : Hid (encP p = (preP p 5 ++ p.body) ++ sumB (preP p 5 ++ p.body)) := Lib.hid rfl
    have hbody : InB wa5 (.slice A p.body.length c) p.body := (InV.mk hcap hr).ext hE5
    generalize preP p 5 = pp at *
    obtain ⟨X, cx, rfl, _, _⟩ := ho5.inV
    go_wp2_with (at_builtin; go_must (refine wpList_appendV elem_u8 (fun _ => rfl) rfl (.tmp 34) (.tmp 36) rfl w.heap.size (.slice X pp.length cx) pp rfl ho5 _ p.body rfl hbody (by omega) (by omega) hE5.size (Hold.out ?_)))
    refine Hold.mk fun v6 w6 ho6 hg6 => ?_
    have hE6 := hg6.ext hE5 ho5.ge
    obtain ⟨Y, cy, rfl, _, _⟩ := ho6.inV
    have hlen : (pp ++ p.body).length ≤ 6051 := by simp; omega
    have hcl := crcL_lt (pp ++ p.body) (r := 65535) (by omega)
    generalize pp ++ p.body = pb at *
    clear hg6 ho5 hE5 hB5 hbody q0 q1 q2 q3 q4 q5
    go_wp2_with fail
    refine (refSum_any _ pb w6 ho6.inV (by omega)).mono ?_
    rintro e w7 ⟨rfl, rfl⟩
    have hhi := hiB_val hcl
    have hlo := loB_val2 hcl
    have HSB : Hid (sumB pb = [hiB (crcL 65535 pb), loB (crcL 65535 pb)]) := Lib.hid rfl
    generalize crcL 65535 pb = cr at *
    generalize hiB cr = hb at *
    generalize loB cr = lb at *
    go_wp2_with (at_builtin; go_must (refine wpList_appendV elem_u8 (fun _ => rfl) rfl (.tmp 40) (.tmp 47) rfl w.heap.size (.slice Y pb.length cy) pb rfl (ho6.ext ((Ext.refl w6).alloc _)) _ [hb, lb] rfl (OwnV_new2 (f := bv) w6 hb lb _).inV (by simp; omega) (by omega) (by have := hE6.size; simp; omega) (Hold.out ?_)))
    refine Hold.mk fun v8 w8 ho8 hg8 => ?_
    have hE8 := hg8.ext (hE6.alloc _) ho6.ge
    rw [← HSB.out, ← HEN.out] at ho8
    clear hg8 hhi hlo
    go_wp2
    go_ret2
    exact ⟨_, _, rfl, .inl ⟨HR.out, rfl, ho8⟩, hE8⟩
set_option maxRecDepth 100000 in
theorem equalB_any (x y : Value) (l m : List UInt8) (w : World) (hx : InB w x l) (hy : InB w y m) (hl : l.length ≤ 4294967296) (hm : m.length ≤ 4294967296) :
    Calls Try.prog 69 #[x, y] w fun e w' => e = .returned (.bool (decide (l = m))) ∧ ∃ n, w' = w.drewN n := by
  obtain ⟨A, c, rfl, _, hr⟩ := hx
  obtain ⟨B, d, rfl, _, hs⟩ := hy
  by_cases hne : l.length = m.length
  · have hb : ((l.length : Int) != (m.length : Int)) = false := by simp [hne]
    have Hn := Lib.hid hne
    clear hne
    go_enter Try.func69, Try.ntmps69
    go_wp2_with fail
    clear hb
    go_loopw [13] (fun i wr => ∃ k n : Nat, k ≤ l.length ∧ i = .int .i64 (k : Int) ∧ l.take k = m.take k ∧ wr = w.drewN n) (fun i _ => l.length - (intOf i).toNat)
    case atStart => exact ⟨0, 0, Nat.zero_le _, rfl, rfl, rfl⟩
    case round =>
      obtain ⟨k, n, hk, rfl, htk, rfl⟩ := hrel
      have Htk := Lib.hid htk
      clear htk
      by_cases hlt : k < l.length
      · have hlt2 : k < m.length := by have := Hn.out; omega
        obtain ⟨b1, o1, rfl, hc1⟩ := hr.byte hlt
        obtain ⟨b2, o2, rfl, hc2⟩ := hs.byte hlt2
        have hi1 : (k : Int) < (l.length : Int) := by omega
        have hi2 : (k : Int) < (m.length : Int) := by omega
        have HE : Hid (l[k] = m[k] → l[k] = m[k]) := Lib.hid id
        have HF : Hid (l[k] ≠ m[k] → l ≠ m) := Lib.hid fun h e => by subst e; exact h rfl
        obtain ⟨v1, hv1⟩ : ∃ v1, v1 = l[k] := ⟨_, rfl⟩
        obtain ⟨v2, hv2⟩ : ∃ v2, v2 = m[k] := ⟨_, rfl⟩
        rw [← hv1] at hc1
        rw [← hv2] at hc2
        have HE' : Hid (v1 = v2 → l[k] = m[k]) := by rw [hv1, hv2]; exact HE
        have HF' : Hid (v1 ≠ v2 → l ≠ m) := by rw [hv1, hv2]; exact HF
        clear HE HF hv1 hv2
        by_cases hv : v1 = v2
        · subst hv
          have HE := Lib.hid (HE'.out rfl)
          clear HE' HF'
          have hb : ((v1.toNat : Int) != (v1.toNat : Int)) = false := by simp
          go_wp2_with fail
          go_quiet (fail)
          go_wp2_with fail
          go_roundw
          case rel => exact ⟨k + 1, _, by omega, by go_num, take_step Htk.out hlt hlt2 HE.out, rfl⟩
          case measure => simp [intOf]; omega
        · have HF := Lib.hid (HF'.out hv)
          have hb : ((v1.toNat : Int) != (v2.toNat : Int)) = true := by
            simp only [bne_iff_ne, ne_eq, Int.natCast_inj]
            exact fun e => hv (UInt8.toNat_inj.1 e)
          clear HE' HF' hv
          go_wp2_with fail
          go_quiet (fail)
          go_wp2_with fail
          go_ret
          exact ⟨by rw [decide_eq_false HF.out]; rfl, _, World.drewN_drewN _ _ _⟩
      · go_wp2_with fail
        go_ret
        have e : l = m := by
          have h1 := Htk.out
          rw [List.take_of_length_le (by omega), List.take_of_length_le (by have := Hn.out; omega)] at h1
          exact h1
        exact ⟨by rw [decide_eq_true e]; rfl, n, rfl⟩
  · have hb : ((l.length : Int) != (m.length : Int)) = true := by simp; omega
    have HE : Hid (l ≠ m) := Lib.hid fun e => hne (by rw [e])
    clear hne
    go_enter Try.func69, Try.ntmps69
    go_wp2_with fail
    go_ret
    exact ⟨by rw [decide_eq_false HE.out]; rfl, 0, rfl⟩


set_option maxRecDepth 100000 in
theorem cloneB_any (x : Value) (l : List UInt8) (w : World) (hx : InB w x l) (hl : l.length ≤ 1073741824) :
    Calls Try.prog 76 #[x] w fun e w' => ∃ y, e = .returned y ∧ OwnV bv 5 w.heap.size w' y l ∧ Ext w w' := by
  have hX := hx
  obtain ⟨A, c, rfl, _, hr⟩ := hx
  have kn := fun (w : World) (a : Option Addr) (l c : Nat) => Lib.run_eql_slice_nil (P := Try.prog) w 32 5 a l c 0 0 Try.underlying32
  rcases A with _ | ad
  · have : l = [] := by
      cases l with
      | nil => rfl
      | cons a l => obtain ⟨ad, h, _⟩ := hr.at_ (k := 0) (by simp); cases h
    subst this
    go_enter Try.func76, Try.ntmps76
    go_wp2
    go_ret
    exact ⟨_, rfl, OwnV.nil _, Ext.refl w⟩
  · go_enter Try.func76, Try.ntmps76
    go_wp2_with (at_builtin; go_must (refine wpList_appendV elem_u8 (fun _ => rfl) rfl (.tmp 5) (.tmp 6) rfl w.heap.size _ [] rfl (own_empty w _ rfl).toV _ l rfl (hX.ext ((Ext.refl w).alloc _)) (by simp; omega) (by omega) (by simp) (Hold.out ?_)))
    refine Hold.mk fun v1 w1 ho1 hg1 => ?_
    have hE1 := hg1.ext ((Ext.refl w).alloc _) (fun k hk => by simp only [Value.ownBlock, Option.some.injEq] at hk; omega)
    clear hg1
    go_wp2
    go_ret
    exact ⟨_, rfl, ho1, hE1⟩
end Go.Proofs.Ytpngmnfjefplkaa
