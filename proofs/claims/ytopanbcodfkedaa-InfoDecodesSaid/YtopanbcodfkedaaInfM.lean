/- The sanity check of layer 21: the walk. -/
import Derived.Test.YtopanbcodfkedaaInfL
import Derived.Test.YtopanbcodfkedaaWireR
namespace Go.Proofs.Ytopanbcodfkedaa
open Go.RowKit
set_option linter.unusedVariables false
set_option linter.unusedSimpArgs false

def ab21 : List UInt8 := [1, 0, 2, 2, 1, 3, 1]
def en21 : List UInt8 := [1, 2, 0]
theorem uintB_sm (n : Nat) (h : n < 128) : uintB (n : Int) = [UInt8.ofNat n] := by
  unfold uintB
  rw [if_neg (by omega), Int.toNat_natCast, leb_small h]
theorem ent21_right : RightE [ent21] := by
  refine ⟨by simp, fun i h => ?_⟩
  have : i = 0 := by simp only [List.length_cons, List.length_nil] at h; omega
  subst this
  refine ⟨rfl, by simp [ent21], by simp [ent21], ?_, by simp [ent21]⟩
  intro a ha
  simp only [ent21, List.getElem_cons_zero, List.mem_cons, List.not_mem_nil, or_false] at ha
  rcases ha with rfl | rfl
  · exact ⟨by decide, .inl ⟨rfl, by decide, by decide, rfl⟩⟩
  · exact ⟨by decide, .inl ⟨rfl, by decide, by decide, rfl⟩⟩
theorem ent21_I : ∀ e ∈ [ent21], e.I := fun e he => by
  simp only [List.mem_singleton] at he
  subst he
  refine ⟨by unfold I64; decide, by decide, fun a ha => ?_⟩
  simp only [ent21, List.mem_cons, List.not_mem_nil, or_false] at ha
  rcases ha with rfl | rfl
  · exact ⟨by unfold I64; decide, by unfold I64; decide, by decide⟩
  · exact ⟨by unfold I64; decide, by unfold I64; decide, by decide⟩
theorem ent21_shape : shapeB ent21 false = ab21 := by
  have e0 : uintB 0 = [0] := uintB_sm 0 (by omega)
  have e1 : uintB 1 = [1] := uintB_sm 1 (by omega)
  have e2 : uintB 2 = [2] := uintB_sm 2 (by omega)
  have e3 : uintB 3 = [3] := uintB_sm 3 (by omega)
  simp [shapeB, shapeN, attsN, numB, ent21, ab21, e0, e1, e2, e3]
theorem ent21_encL : encL [ent21] ([], []) = ([ab21], en21) := by
  have e0 : uintB 0 = [0] := uintB_sm 0 (by omega)
  have e1 : uintB 1 = [1] := uintB_sm 1 (by omega)
  have e2 : uintB 2 = [2] := uintB_sm 2 (by omega)
  have hk : decide (ent21.depth < headD []) = false := by decide
  unfold encL
  show encL [] (stepE ent21 (headD []) ([], [])) = _
  unfold encL stepE
  simp only [hk, ent21_shape, addS, List.not_mem_nil, if_false, List.nil_append]
  have hi : List.idxOf ab21 [ab21] = 0 := by simp
  rw [hi]
  simp [entB, valB, ent21, headD, en21, e0, e1, e2]
theorem ent21_enc : EncE [ent21] = (ab21, en21) := by
  unfold EncE
  rw [if_pos ent21_right, ent21_encL, if_neg (by simp [ab21, en21])]
  simp
theorem ent21_dec : decD ab21 en21 = .ok [ent21] := by kernel_rfl
set_option maxHeartbeats 40000000 in
set_option maxRecDepth 100000 in
theorem known21_any (w : World) : Calls Try.prog 7 #[] w (OneOf (.bool true) w) := by
  obtain ⟨a, ha⟩ : ∃ a, a = ab21 := ⟨_, rfl⟩
  obtain ⟨b, hb⟩ : ∃ b, b = en21 := ⟨_, rfl⟩
  have HEN : Hid (EncE [ent21] = (a, b)) := Lib.hid (by rw [ha, hb]; exact ent21_enc)
  have HDE : Hid (decD a b = .ok [ent21]) := Lib.hid (by rw [ha, hb]; exact ent21_dec)
  have hal : a.length ≤ 1000 := by rw [ha]; decide
  have hbl : b.length ≤ 1000 := by rw [hb]; decide
  have HA := Lib.hid ha
  have HB := Lib.hid hb
  have HSM : Hid (∀ t ∈ [ent21], t.attrs.length ≤ 1000000000) := Lib.hid (fun t ht => by simp only [List.mem_singleton] at ht; subst ht; decide)
  obtain ⟨T, hT⟩ : ∃ T, T = ent21 := ⟨_, rfl⟩
  have HR := Lib.hid ent21_I
  rw [← hT] at HEN HDE HSM HR
  have HT := Lib.hid hT
  clear ha hb hT
  go_enter Try.func7, Try.ntmps7
  go_wp2_with fail
  refine (ofZero_any w).mono ?_
  rintro en w1 ⟨y1, rfl, hn1, hx1⟩
  rw [← HT.out] at hn1
  obtain ⟨A1, c1, hv1⟩ := hn1.form
  rw [List.length_singleton] at hv1
  subst hv1
  go_wp2_with fail
  refine (Encode_any [T] _ w1 hn1 HR.out (by simp)).mono ?_
  rintro en w2 ⟨y2, z2, rfl, hy2, hz2, hx2⟩
  rw [HEN.out] at hy2 hz2
  dsimp only at hy2 hz2
  have hi2 : InB w2 y2 a := hy2.inV
  have hj2 : InB w2 z2 b := hz2.inV
  have hX2 := hx1.trans hx2
  have hn2 := hn1.ext hx2
  obtain ⟨A2, c2, hv2, _, _⟩ := id hi2
  obtain ⟨n2, hn2'⟩ : ∃ n, n = a.length := ⟨_, rfl⟩
  obtain ⟨A3, c3, hv3, _, _⟩ := id hj2
  obtain ⟨n3, hn3'⟩ : ∃ n, n = b.length := ⟨_, rfl⟩
  rw [← hn2'] at hv2
  rw [← hn3'] at hv3
  subst hv2 hv3
  clear hx1 hx2 hn1 hy2 hz2 hn2' hn3'
  go_wp2_with fail
  have hdec := EDecode_any _ _ a b w2 hi2 hj2 (by omega) (by omega)
  rw [HDE.out] at hdec
  refine hdec.mono ?_
  rintro en w3 ⟨⟨y4, rfl, ho4⟩, hx3⟩
  have hX3 := hX2.trans hx3
  have hi3 := hi2.ext hx3
  have hj3 := hj2.ext hx3
  have hn3 := hn2.ext hx3
  have hd3 := ho4.in_
  obtain ⟨A4, c4, hv4⟩ := hd3.form
  rw [List.length_singleton] at hv4
  subst hv4
  have hA := (Ext.refl w3).alloc (.cells #[.int .u8 1, .int .u8 0, .int .u8 2, .int .u8 2, .int .u8 1, .int .u8 3, .int .u8 1] 5)
  have hy : InB (w3.alloc (.cells #[.int .u8 1, .int .u8 0, .int .u8 2, .int .u8 2, .int .u8 1, .int .u8 3, .int .u8 1] 5)) (.slice (some ⟨w3.heap.size, 0, none⟩) 7 7) a := by
    rw [HA.out]
    exact ⟨_, 7, rfl, Nat.le_refl _, Rd_blk (heap_alloc_new w3 (.cells #[.int .u8 1, .int .u8 0, .int .u8 2, .int .u8 2, .int .u8 1, .int .u8 3, .int .u8 1] 5))⟩
  have hi5 := hi3.ext hA
  have hj5 := hj3.ext hA
  have hn5 := hn3.ext hA
  have hd5 := hd3.ext hA
  have hX5 := hX3.trans hA
  have hal4 : a.length ≤ 4294967296 := by omega
  have hbl4 : b.length ≤ 4294967296 := by omega
  clear hdec hX2 hi2 hj2 hn2 hx3 ho4 hX3 hi3 hj3 hn3 hd3 hA hal hbl
  go_wp2_with fail
  generalize w3.alloc (.cells #[.int .u8 1, .int .u8 0, .int .u8 2, .int .u8 2, .int .u8 1, .int .u8 3, .int .u8 1] 5) = w5 at *
  refine (sameList_any _ _ a a w5 hi5 hy hal4 hal4).mono ?_
  rintro en w6 ⟨rfl, n6, rfl⟩
  have hd : decide (a = a) = true := by simp
  rw [hd]
  have hXd := (Ext.refl w5).drewN n6
  have hX6 := hX5.trans hXd
  have hj6 := hj5.ext hXd
  have hn6 := hn5.ext hXd
  have hd6 := hd5.ext hXd
  clear hi5 hj5 hy hal4 hX5 hn5 hd5 hd hXd
  generalize w5.drewN n6 = w6 at *
  have hA := (Ext.refl w6).alloc (.cells #[.int .u8 1, .int .u8 2, .int .u8 0] 5)
  have hy : InB (w6.alloc (.cells #[.int .u8 1, .int .u8 2, .int .u8 0] 5)) (.slice (some ⟨w6.heap.size, 0, none⟩) 3 3) b := by
    rw [HB.out]
    exact ⟨_, 3, rfl, Nat.le_refl _, Rd_blk (heap_alloc_new w6 (.cells #[.int .u8 1, .int .u8 2, .int .u8 0] 5))⟩
  have hj7 := hj6.ext hA
  have hn7 := hn6.ext hA
  have hd7 := hd6.ext hA
  have hX7 := hX6.trans hA
  clear hj6 hn6 hd6 hX6 hA
  go_wp2_with fail
  generalize w6.alloc (.cells #[.int .u8 1, .int .u8 2, .int .u8 0] 5) = w7 at *
  refine (sameList_any _ _ b b w7 hj7 hy hbl4 hbl4).mono ?_
  rintro en w8 ⟨rfl, n8, rfl⟩
  have hd : decide (b = b) = true := by simp
  rw [hd]
  have hXd := (Ext.refl w7).drewN n8
  have hX8 := hX7.trans hXd
  have hn8 := hn7.ext hXd
  have hd8 := hd7.ext hXd
  clear hj7 hy hbl4 hX7 hn7 hd7 hd hXd
  generalize w7.drewN n8 = w8 at *
  go_wp2_with fail
  refine (entriesSelf_any _ _ [T] w8 hd8 hn8 (by simp) HSM.out).mono ?_
  rintro en w9 ⟨rfl, hx9⟩
  have hX9 := hX8.trans hx9
  clear hX8 hn8 hd8 hx9
  go_wp2_with fail
  go_ret
  exact ⟨rfl, hX9⟩
end Go.Proofs.Ytopanbcodfkedaa
