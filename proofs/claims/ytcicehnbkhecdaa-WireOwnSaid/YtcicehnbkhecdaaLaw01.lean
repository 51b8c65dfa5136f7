/- The walks of the statements about layer 1. -/
import Derived.Test.YtcicehnbkhecdaaWireR
import Derived.Test.YtcicehnbkhecdaaWireE
import Derived.Test.YtcicehnbkhecdaaPlain2
namespace Go.Proofs.Ytcicehnbkhecdaa
open Go.RowKit

theorem known_any (w : World) : Calls Try.prog 14 #[] w fun e w' => e = .returned (.bool true) ∧ Ext w w' := by
  have e1 : [] ++ uintB 300 = [172, 2] := by unfold uintB; rw [if_neg (by omega), leb_big (by decide), leb_small (by decide)]; rfl
  have e2 : [172, 2] ++ leb (zig (-3)) = [172, 2, 5] := by rw [leb_small (by decide)]; rfl
  have e3 : uintR [172, 2, 5] 0 = (300, 2, 0) := by decide +kernel
  have e4 : intR [172, 2, 5] 2 = (-3, 3, 0) := by decide +kernel
  have E1 := Lib.hid e1
  have E2 := Lib.hid e2
  have E3 := Lib.hid e3
  have E4 := Lib.hid e4
  clear e1 e2 e3 e4
  go_enter Try.func14, Try.ntmps14
  go_wp2_with fail
  refine (AppendUint_any _ [] 300 w (InV.nil w) (by simp) (by omega)).mono ?_
  rintro e w1 ⟨y1, rfl, ho1, he1⟩
  rw [E1.out] at ho1
  go_wp2_with fail
  refine (AppendInt_any y1 [172, 2] (-3) w1 ho1.inB (by simp) (by omega) (by omega)).mono ?_
  rintro e w2 ⟨y2, rfl, ho2, he2⟩
  rw [E2.out] at ho2
  have hin := ho2.inB
  clear ho1 ho2
  go_wp2_with fail
  refine (Uint_any y2 [172, 2, 5] 0 w2 hin (by simp)).mono ?_
  rintro e w3 ⟨rfl, he3⟩
  rw [E3.out]
  simp only
  go_wp2_with fail
  refine (Int_any y2 [172, 2, 5] 2 w3 (hin.ext he3) (by simp)).mono ?_
  rintro e w4 ⟨rfl, he4⟩
  rw [E4.out]
  simp only
  go_wp2_with fail
  refine (sameList_any y2 _ [172, 2, 5] [172, 2, 5] _ ((hin.ext (he3.trans he4)).ext ((Ext.refl w4).alloc _)) ⟨_, 3, rfl, Nat.le_refl _, ?_⟩ (by simp) (by simp)).mono ?_
  · intro j u hu
    refine ⟨_, rfl, ?_⟩
    exact World.news_of_block (heap_alloc_new w4 _) j u hu
  · rintro e w5 ⟨rfl, n, rfl⟩
    simp only [decide_true]
    go_wp2_with fail
    go_ret
    exact ⟨rfl, (((he1.trans he2).trans he3).trans he4).alloc _ |>.drewN n⟩

theorem OwnB.open_ {base : Nat} {w : World} {v : Value} {l : List UInt8} (h : OwnB base w v l) : ∃ A c, v = .slice A l.length c ∧ InB w (.slice A l.length c) l := by
  obtain ⟨A, c, rfl, hc, hr⟩ := h.inB
  exact ⟨A, c, rfl, ⟨A, c, rfl, hc, hr⟩⟩

set_option maxRecDepth 100000 in
theorem law_lengths (v : Int) (w : World) : Calls Try.prog 5 #[.int .i64 v] w fun e w' => e = .returned (.bool true) ∧ Ext w w' := by
  obtain ⟨U, hU, eU⟩ := and_i64_mask v 9223372036854775807 (by omega)
  have eU' : bits .and .i64 v 9223372036854775807 = (U : Int) := eU
  clear eU
  have hL9 : (leb U).length ≤ 9 := leb_len 8 U (by omega)
  have hd := leb_double U
  have hz : zig (U : Int) = 2 * U := by unfold zig; rw [if_neg (by omega)]; omega
  have h64 : (leb (zig (v.tmod 64))).length = 1 := by
    have h1 := Int.tmod_lt_of_pos v (b := 64) (by omega)
    have h2 : -64 < v.tmod 64 := by
      rcases Int.le_total 0 v with h | h
      · have := Int.tmod_nonneg 64 h; omega
      · have h3 := Int.tmod_lt_of_pos (-v) (b := 64) (by omega)
        rw [Int.neg_tmod] at h3; omega
    rw [leb_small]; rfl
    unfold zig; split <;> omega
  have h1 := Int.tmod_lt_of_pos v (b := 64) (by omega)
  have h2 : -64 < v.tmod 64 := by
    rcases Int.le_total 0 v with h | h
    · have := Int.tmod_nonneg 64 h; omega
    · have h3 := Int.tmod_lt_of_pos (-v) (b := 64) (by omega)
      rw [Int.neg_tmod] at h3; omega
  have hu : uintB (U : Int) = leb U := by unfold uintB; rw [if_neg (by omega), Int.toNat_natCast]
  have HZ := Lib.hid hz
  have H64 := Lib.hid h64
  have HU := Lib.hid hu
  clear hz h64 hu
  go_enter Try.func5, Try.ntmps5
  go_wp2_with fail
  clear eU'
  go_loop [4, 5] (fun x y => ∃ n k : Nat, x = .int .i64 (n : Int) ∧ y = .int .i64 (k : Int) ∧ k ≤ U ∧ n + (leb k).length = (leb U).length + 1) (fun _ y => (intOf y).toNat)
  case atStart => exact ⟨1, U, rfl, rfl, Nat.le_refl _, by omega⟩
  case round =>
    obtain ⟨n, k, rfl, rfl, hk, hn⟩ := hrel
    have hn9 : n ≤ 10 := by omega
    have HN := Lib.hid hn
    clear hn
    by_cases hlt : k < 128
    · have hn : (leb U).length = n := by have h := HN.out; rw [leb_small hlt] at h; simp at h; omega
      have HN2 := Lib.hid hn
      rw [hn] at hd hL9
      clear hn HN
      go_wp2_with fail
      refine (AppendInt_any _ [] _ w (InV.nil w) (by simp) (by omega) (by omega)).mono ?_
      rintro e w1 ⟨y1, rfl, ho1, he1⟩
      rw [HZ.out, List.nil_append] at ho1
      obtain ⟨A1, c1, rfl, hin1⟩ := ho1.open_
      clear ho1 hin1
      generalize (leb (2 * U)).length = m at *
      go_wp2_with fail
      refine (AppendInt_any _ [] _ w1 (InV.nil w1) (by simp) (by omega) (by omega)).mono ?_
      rintro e w2 ⟨y2, rfl, ho2, he2⟩
      rw [List.nil_append] at ho2
      obtain ⟨A2, c2, rfl, hin2⟩ := ho2.open_
      clear ho2 hin2
      rw [H64.out]
      go_wp2_with fail
      refine (AppendUint_any _ [] _ w2 (InV.nil w2) (by simp) (by omega)).mono ?_
      rintro e w3 ⟨y3, rfl, ho3, he3⟩
      rw [HU.out, List.nil_append] at ho3
      obtain ⟨A3, c3, rfl, hin3⟩ := ho3.open_
      clear ho3 hin3
      rw [HN2.out]
      have hb1 : (n : Int) ≤ 9 := by omega
      have hb2 : (n : Int) ≤ (m : Int) := by omega
      have hb3 : (m : Int) ≤ (n : Int) + 1 := by omega
      go_wp2_with fail
      refine (known_any w3).mono ?_
      rintro e w4 ⟨rfl, he4⟩
      go_wp2_with fail
      go_ret
      exact ⟨rfl, ((he1.trans he2).trans he3).trans he4⟩
    · go_wp2_with fail
      go_round
      case rel => exact ⟨n + 1, k / 128, by go_num, by go_num, by omega, by have h := HN.out; rw [leb_big hlt] at h; simp at h; omega⟩
      case measure => simp [intOf]; omega

theorem preB {w : World} {x : Value} {l : List UInt8} (hx : InB w x l) (hi : Nat) (h2 : hi ≤ l.length) :
    ∃ A c, (∀ W, (Instr.slice 22 x none (some (.int .i64 (hi : Int))) none).run Try.prog W = .ok (.slice A hi c) W) ∧ InB w (.slice A hi c) (l.take hi) := by
  obtain ⟨i0, hi0, hs⟩ := u8_parts
  exact InV.pre Try.underlying22 hi0 hs hx hi h2

set_option maxRecDepth 100000 in
theorem law_writes (x : Value) (l : List UInt8) (v : Int) (t : ByteArray) (w : World) (hx : InB w x l) (hv1 : -9223372036854775808 ≤ v) (hv : v ≤ 9223372036854775807) :
    Calls Try.prog 6 #[x, .int .i64 v, .string t] w fun e w' => e = .returned (.bool true) ∧ Ext w w' := by
  have hx' := hx
  obtain ⟨A, c, rfl, _, _⟩ := hx'
  by_cases h1 : 300 < l.length
  · clear hv hv1
    have h1' : (300 : Int) < (l.length : Int) := by omega
    go_enter Try.func6, Try.ntmps6
    go_wp2_with fail
    refine (known_any w).mono ?_
    rintro e w1 ⟨rfl, he1⟩
    go_wp2_with fail
    go_ret
    exact ⟨rfl, he1⟩
  · by_cases h2 : 500 < t.size
    · clear hv hv1
      have h2' : (500 : Int) < (t.size : Int) := by omega
      go_enter Try.func6, Try.ntmps6
      go_wp2_with fail
      refine (known_any w).mono ?_
      rintro e w1 ⟨rfl, he1⟩
      go_wp2_with fail
      go_ret
      exact ⟨rfl, he1⟩
    · have hu := uintB_len hv
      have hz := leb_len10 (zig_lt hv1 hv)
      have ht := leb_len10 (u := t.size) (by omega)
      go_enter Try.func6, Try.ntmps6
      go_wp2_with fail
      refine (AppendUint_any _ l v w hx (by omega) hv).mono ?_
      rintro e w1 ⟨y1, rfl, ho1, he1⟩
      go_wp2_with fail
      refine (refAppendUint_any _ l v w1 (hx.ext he1) (by omega) hv).mono ?_
      rintro e w2 ⟨y2, rfl, ho2, he2⟩
      go_wp2_with fail
      refine (sameList_any y1 y2 _ _ w2 (ho1.inB.ext he2) ho2.inB (by simp; omega) (by simp; omega)).mono ?_
      rintro e w3 ⟨rfl, n3, rfl⟩
      simp only [decide_true]
      have he3 := (he1.trans he2).drewN n3
      clear ho1 ho2
      generalize w2.drewN n3 = w3 at *
      go_wp2_with fail
      refine (AppendInt_any _ l v w3 (hx.ext he3) (by omega) hv1 hv).mono ?_
      rintro e w4 ⟨y4, rfl, ho4, he4⟩
      go_wp2_with fail
      refine (refAppendInt_any _ l v w4 (hx.ext (he3.trans he4)) (by omega) hv1 hv).mono ?_
      rintro e w5 ⟨y5, rfl, ho5, he5⟩
      go_wp2_with fail
      refine (sameList_any y4 y5 _ _ w5 (ho4.inB.ext he5) ho5.inB (by simp; omega) (by simp; omega)).mono ?_
      rintro e w6 ⟨rfl, n6, rfl⟩
      simp only [decide_true]
      have he6 := ((he3.trans he4).trans he5).drewN n6
      clear ho4 ho5
      generalize w5.drewN n6 = w6 at *
      go_wp2_with fail
      refine (AppendText_any _ l t w6 (hx.ext he6) (by omega) (by omega)).mono ?_
      rintro e w7 ⟨y7, rfl, ho7, he7⟩
      go_wp2_with fail
      refine (refAppendText_any _ l t w7 (hx.ext (he6.trans he7)) (by omega) (by omega)).mono ?_
      rintro e w8 ⟨y8, rfl, ho8, he8⟩
      go_wp2_with fail
      refine (sameList_any y7 y8 _ _ w8 (ho7.inB.ext he8) ho8.inB (by simp; omega) (by simp; omega)).mono ?_
      rintro e w9 ⟨rfl, n9, rfl⟩
      simp only [decide_true]
      have he9 := ((he6.trans he7).trans he8).drewN n9
      clear ho7 ho8
      generalize w8.drewN n9 = w9 at *
      go_wp2_with fail
      refine (known_any w9).mono ?_
      rintro e w10 ⟨rfl, he10⟩
      go_wp2_with fail
      go_ret
      exact ⟨rfl, he9.trans he10⟩

set_option maxRecDepth 100000 in
theorem reads_any (x : Value) (l : List UInt8) (p : Int) (w : World) (hx : InB w x l) (hl : l.length ≤ 4294967296) :
    Calls Try.prog 21 #[x, .int .i64 p] w fun e w' => e = .returned (.bool true) ∧ Ext w w' := by
  obtain ⟨⟨u, n, er⟩, hr⟩ : ∃ r, uintR l p = r := ⟨_, rfl⟩
  obtain ⟨⟨u2, n2, er2⟩, hr2⟩ : ∃ r, intR l p = r := ⟨_, rfl⟩
  obtain ⟨⟨t, n3, er3⟩, hr3⟩ : ∃ r, textR l p = r := ⟨_, rfl⟩
  have HR := Lib.hid hr
  have HR2 := Lib.hid hr2
  have HR3 := Lib.hid hr3
  clear hr hr2 hr3
  go_enter Try.func21, Try.ntmps21
  go_wp2_with fail
  refine (Uint_any x l p w hx hl).mono ?_
  rintro e w1 ⟨rfl, he1⟩
  rw [HR.out]; simp only
  go_wp2_with fail
  refine (refUint_any x l p w1 (hx.ext he1) hl).mono ?_
  rintro e w2 ⟨rfl, rfl⟩
  rw [HR.out]; simp only
  go_wp2_with fail
  refine (Int_any x l p w1 (hx.ext he1) hl).mono ?_
  rintro e w3 ⟨rfl, he3⟩
  rw [HR2.out]; simp only
  go_wp2_with fail
  refine (refInt_any x l p w3 (hx.ext (he1.trans he3)) hl).mono ?_
  rintro e w4 ⟨rfl, rfl⟩
  rw [HR2.out]; simp only
  go_wp2_with fail
  refine (Text_any x l p w3 (hx.ext (he1.trans he3)) hl).mono ?_
  rintro e w5 ⟨rfl, he5⟩
  rw [HR3.out]; simp only
  go_wp2_with fail
  refine (refText_any x l p w5 (hx.ext ((he1.trans he3).trans he5)) hl).mono ?_
  rintro e w6 ⟨rfl, rfl⟩
  rw [HR3.out]; simp only
  go_wp2_with fail
  go_ret
  exact ⟨rfl, (he1.trans he3).trans he5⟩

set_option maxRecDepth 100000 in
theorem law_reads (x : Value) (l : List UInt8) (p : Int) (w : World) (hx : InB w x l) :
    Calls Try.prog 8 #[x, .int .i64 p] w fun e w' => e = .returned (.bool true) ∧ Ext w w' := by
  have hx' := hx
  obtain ⟨A, c, rfl, _, _⟩ := hx'
  by_cases h1 : 200 < l.length
  · obtain ⟨A', c', hs, hin⟩ := preB hx 200 (by omega)
    have hs' : ∀ W, (Instr.slice 22 (.slice A l.length c) none (some (.int .i64 200)) none).run Try.prog W = .ok (.slice A' 200 c') W := hs
    have h1' : (200 : Int) < (l.length : Int) := by omega
    have hl : (l.take 200).length = 200 := by simp; omega
    have HL := Lib.hid hl
    clear hs hl hx
    generalize l.take 200 = m at *
    go_enter Try.func8, Try.ntmps8
    go_wp2_with fail
    clear hs' h1'
    go_loopw [5] (fun i wr => ∃ k : Nat, k ≤ 201 ∧ i = .int .i64 (k : Int) ∧ Ext w wr) (fun i _ => 201 - (intOf i).toNat)
    case atStart => exact ⟨0, by omega, rfl, Ext.refl _⟩
    case round =>
      obtain ⟨k, hk, rfl, he⟩ := hrel
      by_cases hlt : k ≤ 200
      · go_wp2_with fail
        refine (reads_any _ m _ wr (hin.ext he) (by have := HL.out; omega)).mono ?_
        rintro e w1 ⟨rfl, he1⟩
        go_wp2_with fail
        go_roundw
        case rel => exact ⟨k + 1, by omega, by go_num, he.trans he1⟩
        case measure => simp [intOf]; omega
      · go_wp2_with fail
        refine (reads_any _ m _ wr (hin.ext he) (by have := HL.out; omega)).mono ?_
        rintro e w1 ⟨rfl, he1⟩
        go_wp2_with fail
        refine (known_any w1).mono ?_
        rintro e w2 ⟨rfl, he2⟩
        go_wp2_with fail
        go_ret
        exact ⟨rfl, (he.trans he1).trans he2⟩
  · have h1' : ¬ (200 : Int) < (l.length : Int) := by omega
    go_enter Try.func8, Try.ntmps8
    go_wp2_with fail
    go_loopw [5] (fun i wr => ∃ k : Nat, k ≤ l.length + 1 ∧ i = .int .i64 (k : Int) ∧ Ext w wr) (fun i _ => l.length + 1 - (intOf i).toNat)
    case atStart => exact ⟨0, by omega, rfl, Ext.refl _⟩
    case round =>
      obtain ⟨k, hk, rfl, he⟩ := hrel
      by_cases hlt : k ≤ l.length
      · go_wp2_with fail
        refine (reads_any _ l _ wr (hx.ext he) (by omega)).mono ?_
        rintro e w1 ⟨rfl, he1⟩
        go_wp2_with fail
        go_roundw
        case rel => exact ⟨k + 1, by omega, by go_num, he.trans he1⟩
        case measure => simp [intOf]; omega
      · go_wp2_with fail
        refine (reads_any _ l _ wr (hx.ext he) (by omega)).mono ?_
        rintro e w1 ⟨rfl, he1⟩
        go_wp2_with fail
        refine (known_any w1).mono ?_
        rintro e w2 ⟨rfl, he2⟩
        go_wp2_with fail
        go_ret
        exact ⟨rfl, (he.trans he1).trans he2⟩
end Go.Proofs.Ytcicehnbkhecdaa
