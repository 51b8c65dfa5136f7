/- The walk of LocsDecodes. -/
import Derived.Test.YtokmbdeafjmcjaaLcZb
import Derived.Test.YtokmbdeafjmcjaaLcS
import Derived.Test.YtokmbdeafjmcjaaLcN
namespace Go.Proofs.Ytokmbdeafjmcjaa
open Go.RowKit
set_option linter.unusedVariables false
set_option linter.unusedSimpArgs false

theorem headB19 {w : World} {x : Value} {l : List UInt8} (hx : InB w x l) (hi : Nat) (h1 : hi ≤ l.length) : ∃ A c, (∀ W, (Instr.slice 32 x none (some (.int .i64 (hi : Int))) none).run Try.prog W = .ok (.slice A hi c) W) ∧ InB w (.slice A hi c) (l.take hi) := by
  obtain ⟨i0, hi0, _, hi1, _⟩ := info_parts' u8_info
  exact InV.pre Try.underlying32 hi0 hi1 hx hi h1
theorem InV.pre19b {α : Type} {f : α → Value} {w : World} {A : Option Addr} {n c : Nat} {l : List α} (h : InV f w (.slice A n c) l) (m : Nat) (hm : m ≤ l.length) : InV f w (.slice A m c) (l.take m) := by
  obtain ⟨A', c', e, hc, hr⟩ := h
  cases e
  have hlt : (l.take m).length = m := by simp; omega
  exact ⟨A, c, by rw [hlt], by omega, by rw [List.map_take]; exact hr.take _⟩
theorem decP_ok {b : List UInt8} {l : List PTab} (h : decP b = .ok l) : RightP l := by
  unfold decP at h
  split at h
  · cases h
  · split at h
    · cases h
    · split at h
      · cases h
      · split at h
        · cases h
        · rename_i h1
          injection h with h
          subst h
          exact Classical.byContradiction (fun hr => h1 (.inr hr))
theorem rngsN_mem : ∀ {l : List PTab} {t : PTab}, t ∈ l → t.ranges.length ≤ rngsN l
  | [], _, h => by simp at h
  | s :: l, t, h => by
    have hs : rngsN (s :: l) = s.ranges.length + rngsN l := by simp [rngsN]
    rcases List.mem_cons.1 h with rfl | h
    · omega
    · have := rngsN_mem h
      omega
theorem RightP.small {l : List PTab} (h : RightP l) {t : PTab} (ht : t ∈ l) : t.ranges.length ≤ 1000000000 ∧ ∀ r ∈ t.ranges, r.places.length ≤ 1000000000 := by
  have h1 := rngsN_mem ht
  have h2 := h.2.2
  have h3 := (okPs_mem (by omega) h.2.1 t ht).2
  refine ⟨by omega, fun r hr => ?_⟩
  obtain ⟨i, hi, rfl⟩ := List.getElem_of_mem hr
  have := (h3 i hi).2.1.2.1
  omega
theorem encPs_pos (l : List PTab) : 1 ≤ (encPs l).length := by
  have h0 : 1 ≤ (numB [(l.length : Int)]).length := by
    have e : numB [(l.length : Int)] = uintB (l.length : Int) := by simp [numB]
    rw [e]
    unfold uintB
    rw [if_neg (by omega)]
    exact leb_pos _
  unfold encPs
  rw [List.length_append]
  omega
set_option maxHeartbeats 40000000 in
set_option maxRecDepth 100000 in
theorem decodes19_any (x : Value) (b : List UInt8) (w : World) (hx : InB w x b) (hl : b.length ≤ 1000000) : Calls Try.prog 44 #[x] w fun en w' => en = .returned (.bool true) ∧ Ext w w' := by
  obtain ⟨A, c, rfl, _, _⟩ := id hx
  have HX := Lib.hid hx
  have hd1 := PDecode_any _ b w hx hl
  obtain ⟨n0, hn0⟩ : ∃ n, n = b.length := ⟨_, rfl⟩
  have HL := Lib.hid hl
  rw [← hn0] at HX hd1 ⊢
  clear hx hl hn0
  go_enter Try.func44, Try.ntmps44
  go_wp2_with fail
  rcases hdf : decP b with er | l
  · rw [hdf] at hd1
    refine hd1.mono ?_
    rintro en w2 ⟨rfl, hx2⟩
    have hd2 := refDecode19_any _ b w2 (HX.out.ext hx2) HL.out
    rw [decS19_eq, hdf] at hd2
    clear hd1
    go_wp2_with fail
    refine hd2.mono ?_
    rintro en w3 ⟨rfl, hx3⟩
    clear hd2
    go_wp2_with fail
    refine (listsSelf_any _ _ [] w3 (POwn.nil 0 _).in_ (POwn.nil 0 _).in_ (by simp) (by simp)).mono ?_
    rintro en w4 ⟨rfl, hx4⟩
    have he : (er == er) = true := by simp
    go_wp2_with fail
    go_ret
    exact ⟨rfl, (hx2.trans hx3).trans hx4⟩
  · rw [hdf] at hd1
    have HR := Lib.hid (decP_ok hdf)
    refine hd1.mono ?_
    rintro en w2 ⟨⟨y1, rfl, ho1⟩, hx2⟩
    have hd2 := refDecode19_any _ b w2 (HX.out.ext hx2) HL.out
    rw [decS19_eq, hdf] at hd2
    clear hd1
    go_wp2_with fail
    refine hd2.mono ?_
    rintro en w3 ⟨⟨y2, rfl, ho2⟩, hx3⟩
    clear hd2
    have h8 := HR.out.1
    go_wp2_with fail
    refine (listsSelf_any _ _ l w3 (ho1.in_.ext hx3) ho2.in_ (by omega) (fun t ht => RightP.small HR.out ht)).mono ?_
    rintro en w4 ⟨rfl, hx4⟩
    go_wp2_with fail
    go_ret
    exact ⟨rfl, (hx2.trans hx3).trans hx4⟩
set_option maxHeartbeats 40000000 in
set_option maxRecDepth 600000 in
theorem decodes19_walk (x y : Value) (b0 : List UInt8) (nums : List Int) (at_ cut by_ : Int) (w : World) (hx : InB w x b0) (hl : b0.length ≤ 9223372036854775807) (hy : InI w y nums) (hnl : nums.length ≤ 9223372036854775807) (hby : 0 ≤ by_ ∧ by_ ≤ 255) :
    Calls Try.prog 11 #[x, y, .int .i64 at_, .int .i64 cut, .int .u8 by_] w fun en w' => en = .returned (.bool true) ∧ Ext w w' := by
  obtain ⟨A0, c0, rfl, hcap0, _⟩ := id hx
  obtain ⟨n0, hn0⟩ : ∃ n, n = b0.length := ⟨_, rfl⟩
  rw [← hn0] at hx hl hcap0 ⊢
  have HN0 := Lib.hid hn0
  clear hn0
  go_enter Try.func11, Try.ntmps11
  go_upto_if 16 with fail
  go_cut [0, 16] (fun v _ wx => ∃ (b : List UInt8) (A : Option Addr) (n c : Nat), v = .slice A n c ∧ InB w (.slice A n c) b ∧ Hid (b.length = n) ∧ n ≤ 300 ∧ wx = w)
  case first =>
    by_cases h3 : 300 < n0
    · have d3 : decide ((300 : Int) < (n0 : Int)) = true := by simp; omega
      have hin3 : InB w (.slice A0 300 c0) (b0.take 300) := InV.pre19b hx 300 (by have := HN0.out; omega)
      have HLEN : Hid ((b0.take 300).length = 300) := Lib.hid (by have := HN0.out; simp; omega)
      go_wp2_with fail
      go_meet
      exact ⟨b0.take 300, A0, 300, c0, rfl, hin3, HLEN, by omega, rfl⟩
    · have d3 : decide ((300 : Int) < (n0 : Int)) = false := by simp; omega
      have HLEN : Hid (b0.length = n0) := Lib.hid HN0.out.symm
      go_wp2_with fail
      go_meet
      exact ⟨b0, A0, n0, c0, rfl, hx, HLEN, by omega, rfl⟩
  obtain ⟨b, A, n, c, rfl, hb, HBL, hn3, hwe⟩ := hcut
  subst hwe
  obtain ⟨wO, rfl⟩ : ∃ W : World, W = wc := ⟨_, rfl⟩
  clear hx
  go_wp2_with fail
  refine (lists19_any y nums wO hy hnl).mono ?_
  rintro en w1 ⟨y1, lx, rfl, hT1, hML, hx1⟩
  have HI1 := Lib.hid (fun (t : PTab) (ht : t ∈ lx) => hML.I ht)
  have HA1 := Lib.hid hML.adds
  have hlx3 := hML.few
  have HEX : Hid (EncP lx = encPs lx) := Lib.hid (by unfold EncP; rw [if_pos hML.right, if_pos hML.len])
  have he1 := encPs_pos lx
  have hxl := hML.len
  obtain ⟨bx, hbx⟩ : ∃ b, b = encPs lx := ⟨_, rfl⟩
  rw [← hbx] at he1 hxl HEX
  clear hbx hML
  go_wp2_with fail
  refine (refEncode19_any lx _ w1 hT1.in_ HI1.out HA1.out (by omega)).mono ?_
  rintro en w2 ⟨u2, rfl, ho2, hx2⟩
  rw [HEX.out] at ho2
  have hE2 := hx1.trans hx2
  have hi2 : InB w2 u2 bx := ho2.inV
  obtain ⟨U2, d2, hu2, hcap2, _⟩ := id hi2
  obtain ⟨N, hN⟩ : ∃ N, N = bx.length := ⟨_, rfl⟩
  rw [← hN] at hu2 he1 hxl hcap2
  subst hu2
  have HN := Lib.hid hN
  have hb2 := hb.ext hE2
  clear ho2 hT1 hlx3 hx1 hx2 hN HEX HI1 HA1 hb
  -- y
  go_upto_region 4 with fail
  have hA3 := (Ext.refl w2).alloc (.cells #[] 5)
  go_wp2_with (at_builtin; go_must (refine wpList_appendV elem_u8 (fun _ => rfl) rfl (.tmp 22) (.tmp 23) rfl w2.heap.size _ [] rfl (own_empty w2 #[] rfl).toV _ bx rfl (hi2.ext hA3) (by have := HN.out; simp only [List.length_nil]; omega) (by omega) hA3.size (Hold.out ?_)))
  refine Hold.mk fun v3 w3 ho3 hg3 => ?_
  have hX3 : Ext w2 w3 := hg3.ext hA3 (own_empty w2 #[] rfl).toV.ge
  obtain ⟨gy, cy, hv3, hgy1, hgy2⟩ := ho3.form (by have := HN.out; omega)
  rw [← HN.out] at hv3
  subst hv3
  clear hg3 hA3
  go_wp2_with fail
  refine (Mod_any at_ (N : Int) w3 (by omega) (by omega)).mono ?_
  rintro en w4 ⟨rfl, rfl⟩
  have m0 := Int.emod_nonneg at_ (show (N : Int) ≠ 0 by omega)
  have m1 := Int.emod_lt_of_pos at_ (show (0 : Int) < (N : Int) by omega)
  obtain ⟨mm, hmm⟩ := Int.eq_ofNat_of_zero_le m0
  rw [hmm] at m1 ⊢
  clear hmm m0
  have hmN : mm < bx.length := by have := HN.out; omega
  obtain ⟨hcm, hfm⟩ := ho3.at_ HN.out mm hmN
  obtain ⟨cc, hcc⟩ : ∃ cc : UInt8, Value.int .u8 by_ = bv cc := ⟨UInt8.ofNat by_.toNat, by
    show _ = Value.int .u8 ((UInt8.ofNat by_.toNat).toNat : Int)
    have : ((UInt8.ofNat by_.toNat).toNat : Int) = by_ := by simp; omega
    rw [this]⟩
  have hput := ho3.put HN.out mm cc
  rw [← hcc] at hput
  obtain ⟨ho4, hg4⟩ := hput
  have hXs : Ext w2 (w3.setCell ⟨gy, mm, none⟩ (.int .u8 by_)) := hX3.grown hg4 (fun k e => by cases e; exact hgy1)
  clear hg4 hcc
  unfold bv at hcm
  generalize ((bx[mm].toNat : Nat) : Int) = om at hcm
  go_upto_region 6 with fail
  generalize w3.setCell ⟨gy, mm, none⟩ (.int .u8 by_) = w5 at *
  have hi5 := hi2.ext hXs
  have hb5 := hb2.ext hXs
  have hE5 := hE2.trans hXs
  have hy5 : InB w5 (.slice (some ⟨gy, 0, none⟩) N cy) (bx.set mm cc) := ho4.inV
  obtain ⟨by5, hby5⟩ : ∃ l, l = bx.set mm cc := ⟨_, rfl⟩
  have hyl : by5.length ≤ 60000 := by rw [hby5, List.length_set, ← HN.out]; exact hxl
  rw [← hby5] at hy5
  clear ho3 ho4 hX3 hXs hcm hfm hby5 hi2 hb2 hE2 m1 hmN
  have hA6 := (Ext.refl w5).alloc (.cells #[] 5)
  have hem := (own_empty w5 #[] rfl).toV
  go_wp2_with (at_builtin; go_must (refine wpList_appendV elem_u8 (fun _ => rfl) rfl (.tmp 32) (.tmp 33) rfl w5.heap.size _ [] rfl hem _ bx rfl (hi5.ext hA6) (by have := HN.out; simp only [List.length_nil]; omega) (by omega) hA6.size (Hold.out ?_)))
  refine Hold.mk fun v6 w6 ho6 hg6 => ?_
  have hX6 : Ext w5 w6 := hg6.ext hA6 hem.ge
  have hb6 := hb5.ext hX6
  obtain ⟨z6, d6, hv6, _, _⟩ := ho6.inV
  rw [← HN.out] at hv6
  subst hv6
  clear hA6 hem hg6
  go_wp2_with (at_builtin; go_must (refine wpList_appendV elem_u8 (fun _ => rfl) rfl (.tmp 34) (.tmp 35) rfl w5.heap.size _ bx rfl ho6 _ b rfl hb6 (by have := HN.out; have := HBL.out; omega) (by omega) hX6.size (Hold.out ?_)))
  refine Hold.mk fun v7 w7 ho7 hg7 => ?_
  have hX7 : Ext w5 w7 := hg7.ext hX6 ho6.ge
  obtain ⟨bz, hbz⟩ : ∃ l, l = bx ++ b := ⟨_, rfl⟩
  have hzl : bz.length ≤ 61000 := by have := HN.out; have := HBL.out; rw [hbz, List.length_append]; omega
  rw [← hbz] at ho7
  have hz7 : InB w7 v7 bz := ho7.inV
  obtain ⟨z7, d7, hv7, _, _⟩ := id hz7
  obtain ⟨NZ, hNZ⟩ : ∃ m, m = bz.length := ⟨_, rfl⟩
  rw [← hNZ] at hv7
  subst hv7
  have hi7 := hi5.ext hX7
  have hb7 := hb5.ext hX7
  have hy7 := hy5.ext hX7
  have hE7 := hE5.trans hX7
  clear ho6 hX6 hb6 hg7 ho7 hX7 hi5 hb5 hy5 hE5 hbz hNZ
  go_wp2_with fail
  refine (decodes19_any _ b w7 hb7 (by have := HBL.out; omega)).mono ?_
  rintro en w8 ⟨rfl, hx8⟩
  have hi8 := hi7.ext hx8
  have hy8 := hy7.ext hx8
  have hz8 := hz7.ext hx8
  have hE8 := hE7.trans hx8
  clear hi7 hb7 hy7 hz7 hE7 hx8
  go_wp2_with fail
  refine (decodes19_any _ bx w8 hi8 (by have := HN.out; omega)).mono ?_
  rintro en w9 ⟨rfl, hx9⟩
  have hi9 := hi8.ext hx9
  have hy9 := hy8.ext hx9
  have hz9 := hz8.ext hx9
  have hE9 := hE8.trans hx9
  clear hi8 hy8 hz8 hE8 hx9
  go_wp2_with fail
  refine (decodes19_any _ by5 w9 hy9 (by omega)).mono ?_
  rintro en w10 ⟨rfl, hx10⟩
  have hi10 := hi9.ext hx10
  have hz10 := hz9.ext hx10
  have hE10 := hE9.trans hx10
  clear hi9 hy9 hz9 hE9 hx10
  go_wp2_with fail
  refine (decodes19_any _ bz w10 hz10 (by omega)).mono ?_
  rintro en w11 ⟨rfl, hx11⟩
  have hi11 := hi10.ext hx11
  have hE11 := hE10.trans hx11
  have hwN : IntKind.i64.wrap ((N : Int) + 1) = (N : Int) + 1 := by rw [IntKind.wrap_i64]; omega
  clear hi10 hz10 hE10 hx11
  go_wp2_with fail
  refine (Mod_any cut ((N : Int) + 1) w11 (by omega) (by omega)).mono ?_
  rintro en w12 ⟨rfl, rfl⟩
  have m0 := Int.emod_nonneg cut (show (N : Int) + 1 ≠ 0 by omega)
  have m1 := Int.emod_lt_of_pos cut (show (0 : Int) < (N : Int) + 1 by omega)
  obtain ⟨mc, hmc⟩ := Int.eq_ofNat_of_zero_le m0
  rw [hmc] at m1 ⊢
  clear hmc m0 hwN
  have hinS := InV.pre19b hi11 mc (by have := HN.out; omega)
  have hmcN : mc ≤ N := by omega
  have hmcd : mc ≤ d2 := by omega
  clear m1
  go_wp2_with fail
  refine (decodes19_any _ (bx.take mc) w11 hinS (by have := HN.out; rw [List.length_take]; omega)).mono ?_
  rintro en w13 ⟨rfl, hx13⟩
  have hE13 := hE11.trans hx13
  clear hi11 hinS hE11 hx13
  go_wp2_with fail
  refine (known19_any w13).mono ?_
  rintro en w14 ⟨rfl, hx14⟩
  go_wp2_with fail
  go_ret
  exact ⟨rfl, hE13.trans hx14⟩
theorem u8_19 {c : Int} (h : (Lit.int .u8 c).wf = true) : 0 ≤ c ∧ c ≤ 255 := by
  simp [Lit.wf, IntKind.min, IntKind.max, IntKind.bits, IntKind.signed] at h
  omega
end Go.Proofs.Ytokmbdeafjmcjaa
