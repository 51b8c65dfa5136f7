/- The sanity check of the statements about the transport. -/
import Derived.Test.YtnobepobalpccaaTraG
import Derived.Test.YtnobepobalpccaaPacketL
import Derived.Test.YtnobepobalpccaaPacketD
namespace Go.Proofs.Ytnobepobalpccaa
open Go.RowKit
set_option linter.unusedVariables false

theorem hello_right {n : Int} (h : 1 ≤ n) (h2 : n ≤ 1073741824) : rightP ⟨1, n, 0, 0, 0, []⟩ :=
  ⟨by simp [badP]; omega, four_ok ⟨by show 0 ≤ n; omega, h2⟩ ⟨by show (0 : Int) ≤ 0; omega, by show (0 : Int) ≤ 1073741824; omega⟩ ⟨by show (0 : Int) ≤ 0; omega, by show (0 : Int) ≤ 1073741824; omega⟩ ⟨by show (0 : Int) ≤ 0; omega, by show (0 : Int) ≤ 1073741824; omega⟩, (fun h => by simp at h), fun _ => ⟨rfl, rfl⟩⟩
theorem poll_new : pollF (newE 1) 0 = (⟨1, 0, 0, 0, 0, 8, [], false⟩, [encP ⟨1, 1, 0, 0, 0, []⟩]) := by
  have h := hello_right (n := 1) (by omega) (by omega)
  simp [pollF, pollM, newE, sendF, h, EP.quiet]
theorem recv_new : recvF (newE 2) ⟨1, 1, 0, 0, 0, []⟩ 0 = (⟨2, 1, 0, 0, 0, 0, [], true⟩, [], false) := by
  simp [recvF, recv1, newE, EP.owes]
theorem push_new : pushF ⟨2, 1, 0, 0, 0, 0, [], true⟩ [120] = (⟨2, 1, 0, 0, 0, 0, [[120]], true⟩, 0) := by
  simp [pushF]
theorem poll_one : (pollF ⟨2, 1, 0, 0, 0, 0, [[120]], true⟩ 1).2.length = 1 := by
  have h : rightP ⟨2, 2, 1, 1, 0, [120]⟩ := ⟨by simp [badP], four_ok ⟨by show (0 : Int) ≤ 2; omega, by show (2 : Int) ≤ 1073741824; omega⟩ ⟨by show (0 : Int) ≤ 1; omega, by show (1 : Int) ≤ 1073741824; omega⟩ ⟨by show (0 : Int) ≤ 1; omega, by show (1 : Int) ≤ 1073741824; omega⟩ ⟨by show (0 : Int) ≤ 0; omega, by show (0 : Int) ≤ 1073741824; omega⟩, (fun _ => by show (1 : Int) ≤ 1; omega), (fun h => absurd rfl h)⟩
  have hf : EP.first ⟨2, 1, 0, 0, 0, 0, [[120]], true⟩ 1 = 0 := by simp [EP.first]
  have ho : outsL ⟨2, 1, 0, 0, 0, 0, [[120]], true⟩ 0 1 = [encP ⟨2, 2, 1, 1, 0, [120]⟩] := by
    simp only [outsL]
    have : dataP ⟨2, 1, 0, 0, 0, 0, [[120]], true⟩ 0 0 = ⟨2, 2, 1, 1, 0, [120]⟩ := by simp [dataP]
    rw [this, sendF, if_pos h]
    rfl
  have hk : min 4 [[(120 : UInt8)]].length - ((0 : Int) - 0).toNat = 1 := by simp
  simp only [pollF, pollM, if_neg (show ¬ (1 : Int) = 0 by omega)]
  rw [hf]
  simp only [hk, ho]
  simp
theorem newE_tame (n : Int) (h : tame n) : (newE n).Tame := by
  have hz : tame 0 := by unfold tame; omega
  exact ⟨h, hz, hz, hz, hz, hz, by simp [newE], by simp [newE]⟩
theorem newE_cons (n : Int) : (newE n).Cons := ⟨by simp [newE], by simp [newE], by simp [newE]⟩
theorem QIn.empty (W : World) (A : Option Addr) (c : Nat) : QIn W (.slice A 0 c) [] := ⟨[], rfl, ⟨A, c, rfl, Nat.zero_le _, Rd.nil⟩, by simp⟩
set_option maxHeartbeats 1000000 in
set_option maxRecDepth 100000 in
theorem awake35_any (w : World) : Calls Try.prog 10 #[] w fun en w' => en = .returned (.bool true) ∧ Ext w w' := by
  have kc := fun (w : World) (C : Array Value) (n c : Nat) => Lib.run_convert_bytes_const (P := Try.prog) w 32 5 C n c Try.underlying32 Try.underlying5
  have ht1 : tame 1 := by unfold tame; omega
  have ht2 : tame 2 := by unfold tame; omega
  have ht0 : tame 0 := by unfold tame; omega
  go_enter Try.func10, Try.ntmps10
  go_wp2_with fail
  refine (New_any 1 w).mono ?_
  rintro en w1 ⟨rfl, hx1⟩
  go_wp2_with fail
  refine (Poll_any _ (newE 1) 0 w1 ⟨_, rfl, QIn.nil _⟩ (newE_tame 1 ht1) (newE_cons 1) ht0).mono ?_
  rintro en w2 ⟨y, yo, e', out, rfl, heq, hq, ho, hx2⟩
  rw [poll_new] at heq
  injection heq with h1 h2
  subst h1
  subst h2
  have hR1 := hello_right (n := 1) (by omega) (by omega)
  have hel := (enc_len hR1).2
  have HDO : Hid (∀ q er, DecIs (encP ⟨1, 1, 0, 0, 0, []⟩) q er → q = ⟨1, 1, 0, 0, 0, []⟩ ∧ er = 0) := Lib.hid fun q er h => dec_own hR1 h
  clear hR1
  generalize encP ⟨1, 1, 0, 0, 0, []⟩ = en1 at *
  obtain ⟨A1, c1, rfl, _⟩ := hq.form
  obtain ⟨A2, c2, rfl, _⟩ := ho.form
  obtain ⟨b, off, x, rfl, hcx, hix⟩ := ho.at_ (j := 0) (by simp)
  simp only [List.length_cons, List.length_nil, List.getElem_cons_zero, Nat.add_zero, Nat.zero_add] at hcx hix ⊢
  obtain ⟨Ax, cx, rfl, _, _⟩ := id hix
  have hP := heap_alloc_new w2 (.cells #[.int .i64 0, .int .i64 0, .int .i64 0, .int .i64 0, .int .i64 0, .int .i64 0, .slice none 0 0, .bool false] 26)
  have hst := run_storeAt_blk (P := Try.prog) (w2.alloc (.cells #[.int .i64 0, .int .i64 0, .int .i64 0, .int .i64 0, .int .i64 0, .int .i64 0, .slice none 0 0, .bool false] 26)) w2.heap.size 26 26 _ #[.int .i64 1, .int .i64 0, .int .i64 0, .int .i64 0, .int .i64 0, .int .i64 8, .slice A1 0 c1, .bool false] hP ep_size rfl (by simp [Value.oneCell'])
  go_upto_region 2 with first | refine wpList_store_run rfl 26 (.tmp 1) (.tmp 13) rfl _ _ _ rfl rfl hst ?_
  have hB := setRow_heap (w2.alloc (.cells #[.int .i64 0, .int .i64 0, .int .i64 0, .int .i64 0, .int .i64 0, .int .i64 0, .slice none 0 0, .bool false] 26)) w2.heap.size _ #[.int .i64 1, .int .i64 0, .int .i64 0, .int .i64 0, .int .i64 0, .int .i64 8, .slice A1 0 c1, .bool false] _ _ hP
  have hX := ((Ext.refl w2).alloc (.cells #[.int .i64 0, .int .i64 0, .int .i64 0, .int .i64 0, .int .i64 0, .int .i64 0, .slice none 0 0, .bool false] 26)).grown (gsetRow (w2.alloc (.cells #[.int .i64 0, .int .i64 0, .int .i64 0, .int .i64 0, .int .i64 0, .int .i64 0, .slice none 0 0, .bool false] 26)) w2.heap.size #[.int .i64 1, .int .i64 0, .int .i64 0, .int .i64 0, .int .i64 0, .int .i64 8, .slice A1 0 c1, .bool false]) (fun k e => by cases e; exact Nat.le_refl _)
  have hE := (hx1.trans hx2).trans hX
  have hcx := hX.cell hcx
  have hix := hix.ext hX
  clear hst hP hX hx1 hx2 hq ho
  generalize (w2.alloc (.cells #[.int .i64 0, .int .i64 0, .int .i64 0, .int .i64 0, .int .i64 0, .int .i64 0, .slice none 0 0, .bool false] 26)).setRow w2.heap.size #[.int .i64 1, .int .i64 0, .int .i64 0, .int .i64 0, .int .i64 0, .int .i64 8, .slice A1 0 c1, .bool false] = w3 at *
  generalize w2.heap.size = g at *
  obtain ⟨q0, q1, q2, q3, q4, q5, q6, q7⟩ := blk8 hB
  go_wp2_with fail
  clear q0 q1 q2 q3 q4 q5 q6 q7
  refine wp_region_X #[true, true, true, true, true, true, true, true, true, true, false, false, false] 10 3 (by kernel_rfl) rfl ?_
  refine wpX_f 9 (.cells #[.int .i64 0, .int .i64 0, .int .i64 0, .int .i64 0, .int .i64 0, .int .i64 0, .slice none 0 0, .bool false] 26 (0, 0)) rfl rfl (by kernel_rfl) (by kernel_rfl) (by kernel_rfl) (fun _ _ _ _ h => h) rfl (fun a w => by go_simp) (w3.heap.size) (Nat.le_refl _) (by kernel_rfl) ?_
  refine wpX_v 1 (.slice (some ⟨b, off, none⟩) 1 c2) rfl rfl (by kernel_rfl) (by kernel_rfl) (by kernel_rfl) (fun _ _ _ _ h => h) (by kernel_rfl) rfl (by rfl) (fun W' hW => by
    skip
    go_simp) ?_
  simp only [List.setIfInBounds_toArray, List.set_cons_zero, List.set_cons_succ]
  refine wpX_v 2 (.pointer (some ⟨b, off, none⟩)) rfl rfl (by kernel_rfl) (by kernel_rfl) (by kernel_rfl) (fun _ _ _ _ h => h) (by kernel_rfl) rfl (by rfl) (fun W' hW => by
    skip
    go_simp) ?_
  simp only [List.setIfInBounds_toArray, List.set_cons_zero, List.set_cons_succ]
  refine wpX_v 3 (.slice Ax en1.length cx) rfl rfl (by kernel_rfl) (by kernel_rfl) (by kernel_rfl) (fun _ _ _ _ h => h) (by kernel_rfl) rfl (by rfl) (fun W' hW => by
    have z := (((Ext.refl w3).drew).trans hW).cell hcx
    go_simp) ?_
  simp only [List.setIfInBounds_toArray, List.set_cons_zero, List.set_cons_succ]
  refine wpX_c 0 7 #[.int .i64 2] rfl rfl (by kernel_rfl) rfl rfl (fun W => by go_simp) ?_
  intro W hW
  refine (New_any 2 _).mono ?_
  rintro en w5 ⟨rfl, he5⟩
  refine ⟨_, rfl, he5, ?_⟩
  simp only [List.setIfInBounds_toArray, List.set_cons_zero, List.set_cons_succ]
  refine wpX_c 4 14 #[.agg #[.int .i64 2, .int .i64 0, .int .i64 0, .int .i64 0, .int .i64 0, .int .i64 0, .slice none 0 0, .bool false], .slice Ax en1.length cx] rfl rfl (by kernel_rfl) rfl rfl (fun W => by go_simp) ?_
  intro W' hW'
  refine (Receive_any _ _ (newE 2) en1 _ ⟨_, rfl, QIn.nil _⟩ (hix.ext ((((Ext.refl w3).drew.trans hW).trans he5).trans hW')) (newE_tame 2 ht2) (newE_cons 2) (by omega)).mono ?_
  rintro en w6 ⟨y6, ym, e', ms, rs, p, er, rfl, hD, heq, hq6, hm6, he6⟩
  refine ⟨_, rfl, he6, ?_⟩
  obtain ⟨rfl, rfl⟩ := HDO.out _ _ hD
  rw [recv_new] at heq
  injection heq with h1 h2
  injection h2 with h2 h3
  subst h1
  subst h2
  subst h3
  obtain ⟨Y6, cy6, rfl, _⟩ := hq6.form
  obtain ⟨M6, cm6, rfl, _⟩ := hm6.form
  have hE6 : Ext w3 w6 := ((((Ext.refl w3).drew.trans hW).trans he5).trans hW').trans he6
  clear hD he5 he6 hW hW' HDO
  simp only [List.length_nil]
  simp only [List.setIfInBounds_toArray, List.set_cons_zero, List.set_cons_succ]
  refine wpX_v 5 (.tuple #[.agg #[.int .i64 2, .int .i64 1, .int .i64 0, .int .i64 0, .int .i64 0, .int .i64 0, .slice Y6 0 cy6, .bool true], .slice M6 0 cm6, .bool false]) rfl rfl (by kernel_rfl) (by kernel_rfl) (by kernel_rfl) (fun _ _ _ _ h => h) (by kernel_rfl) rfl (by rfl) (fun W' hW => by
    skip
    go_simp) ?_
  simp only [List.setIfInBounds_toArray, List.set_cons_zero, List.set_cons_succ]
  refine wpX_v 6 (.agg #[.int .i64 2, .int .i64 1, .int .i64 0, .int .i64 0, .int .i64 0, .int .i64 0, .slice Y6 0 cy6, .bool true]) rfl rfl (by kernel_rfl) (by kernel_rfl) (by kernel_rfl) (fun _ _ _ _ h => h) (by kernel_rfl) rfl (by rfl) (fun W' hW => by
    skip
    go_simp) ?_
  simp only [List.setIfInBounds_toArray, List.set_cons_zero, List.set_cons_succ]
  refine wpX_l 7 (.slice M6 0 cm6) rfl rfl (by kernel_rfl) (by kernel_rfl) (by kernel_rfl) (fun _ _ _ _ h => h) (LateOK_land (by intro cs b h; cases h) (by decide) (by decide) (LateOK_any rfl (by kernel_rfl) (fun _ _ _ h => h))) rfl (by rfl) (fun W' => by go_simp) ?_
  simp only [List.setIfInBounds_toArray, List.set_cons_zero, List.set_cons_succ]
  refine wpX_l 8 (.bool false) rfl rfl (by kernel_rfl) (by kernel_rfl) (by kernel_rfl) (fun _ _ _ _ h => h) (LateOK_land (by intro cs b h; cases h) (by decide) (by decide) (LateOK_any rfl (by kernel_rfl) (fun _ _ _ h => h))) rfl (by rfl) (fun W' => by go_simp) ?_
  simp only [List.setIfInBounds_toArray, List.set_cons_zero, List.set_cons_succ]
  refine wpX_end rfl fun W7 hE7 => Land.mk fun g' hg' hz => ?_
  refine tail_seq 10 rfl (by kernel_rfl) ?_
  simp only [List.drop_succ_cons, List.drop_zero, List.setIfInBounds_toArray, List.set_cons_zero, List.set_cons_succ]
  have hst := run_storeAt_blk (P := Try.prog) W7 g' 26 26 _ #[.int .i64 2, .int .i64 1, .int .i64 0, .int .i64 0, .int .i64 0, .int .i64 0, .slice Y6 0 cy6, .bool true] hz ep_size rfl (by simp [Value.oneCell'])
  go_wp2_with first | refine wpList_store_run rfl 26 (.tmp 3) (.tmp 29) rfl _ _ _ rfl rfl hst ?_
  refine NoPanic.normal ?_
  have hB8 := setRow_heap W7 g' _ #[.int .i64 2, .int .i64 1, .int .i64 0, .int .i64 0, .int .i64 0, .int .i64 0, .slice Y6 0 cy6, .bool true] _ _ hz
  have hX8 := (hE6.trans hE7).grown (gsetRow W7 g' #[.int .i64 2, .int .i64 1, .int .i64 0, .int .i64 0, .int .i64 0, .int .i64 0, .slice Y6 0 cy6, .bool true]) (fun k e => by cases e; exact hg')
  have hE8 := hE.trans hX8
  clear hst hz hX8 hE6 hE7 hg' hq6 hm6 hcx hix hB hE
  generalize W7.setRow g' #[.int .i64 2, .int .i64 1, .int .i64 0, .int .i64 0, .int .i64 0, .int .i64 0, .slice Y6 0 cy6, .bool true] = w8 at *
  obtain ⟨q0, q1, q2, q3, q4, q5, q6, q7⟩ := blk8 hB8
  have hld := run_loadAt_blk (P := Try.prog) w8 g' 26 26 _ (0, 0) _ hB8 Try.underlying26 rfl ep_size
  go_wp2_with first | refine wpList_load_run rfl 26 (.tmp 3) rfl _ _ rfl hld ?_
  have hin : InB (w8.alloc (.cells #[.int .u8 120] 5 (1, 2))) (.slice (some ⟨w8.heap.size, 0, none⟩) 1 1) [120] := ⟨_, 1, rfl, Nat.le_refl _, Rd_blk (heap_alloc_new w8 (.cells #[.int .u8 120] 5 (1, 2)))⟩
  have hx8 := (Ext.refl w8).alloc (.cells #[.int .u8 120] 5 (1, 2))
  refine (Push_any _ _ ⟨2, 1, 0, 0, 0, 0, [], true⟩ [120] _ ⟨_, rfl, QIn.empty _ _ _⟩ ⟨by simp, by simp⟩ hin).mono ?_
  rintro en w9 ⟨y9, e9, er9, rfl, heq9, hq9, hx9⟩
  rw [push_new] at heq9
  injection heq9 with h1 h2
  subst h1
  subst h2
  obtain ⟨A9, c9, rfl, _⟩ := hq9.form
  simp only [List.length_cons, List.length_nil, Nat.zero_add]
  have hP := heap_alloc_new w9 (.cells #[.int .i64 0, .int .i64 0, .int .i64 0, .int .i64 0, .int .i64 0, .int .i64 0, .slice none 0 0, .bool false] 26)
  have hst := run_storeAt_blk (P := Try.prog) (w9.alloc (.cells #[.int .i64 0, .int .i64 0, .int .i64 0, .int .i64 0, .int .i64 0, .int .i64 0, .slice none 0 0, .bool false] 26)) w9.heap.size 26 26 _ #[.int .i64 2, .int .i64 1, .int .i64 0, .int .i64 0, .int .i64 0, .int .i64 0, .slice A9 1 c9, .bool true] hP ep_size rfl (by simp [Value.oneCell'])
  clear q0 q1 q2 q3 q4 q5 q6 q7 hld kc
  go_upto_region 6 with first | refine wpList_store_run rfl 26 (.tmp 6) (.tmp 37) rfl _ _ _ rfl rfl hst ?_
  have hB10 := setRow_heap (w9.alloc (.cells #[.int .i64 0, .int .i64 0, .int .i64 0, .int .i64 0, .int .i64 0, .int .i64 0, .slice none 0 0, .bool false] 26)) w9.heap.size _ #[.int .i64 2, .int .i64 1, .int .i64 0, .int .i64 0, .int .i64 0, .int .i64 0, .slice A9 1 c9, .bool true] _ _ hP
  have hX10 := ((Ext.refl w9).alloc (.cells #[.int .i64 0, .int .i64 0, .int .i64 0, .int .i64 0, .int .i64 0, .int .i64 0, .slice none 0 0, .bool false] 26)).grown (gsetRow (w9.alloc (.cells #[.int .i64 0, .int .i64 0, .int .i64 0, .int .i64 0, .int .i64 0, .int .i64 0, .slice none 0 0, .bool false] 26)) w9.heap.size #[.int .i64 2, .int .i64 1, .int .i64 0, .int .i64 0, .int .i64 0, .int .i64 0, .slice A9 1 c9, .bool true]) (fun k e => by cases e; exact Nat.le_refl _)
  have hq10 := hq9.ext hX10
  have hx10 := (hx8.trans hx9).trans hX10
  have hE10 := hE8.trans hx10
  have hB8' := hx10.heap hB8
  clear hst hP hX10 hx8 hx9 hx10 hq9 hin hE8 hB8
  generalize (w9.alloc (.cells #[.int .i64 0, .int .i64 0, .int .i64 0, .int .i64 0, .int .i64 0, .int .i64 0, .slice none 0 0, .bool false] 26)).setRow w9.heap.size #[.int .i64 2, .int .i64 1, .int .i64 0, .int .i64 0, .int .i64 0, .int .i64 0, .slice A9 1 c9, .bool true] = w10 at *
  generalize w9.heap.size = g10 at *
  have hld := run_loadAt_blk (P := Try.prog) w10 g10 26 26 _ (0, 0) _ hB10 Try.underlying26 rfl ep_size
  go_wp2_with first | refine wpList_load_run rfl 26 (.tmp 6) rfl _ _ rfl hld ?_
  refine (Poll_any _ ⟨2, 1, 0, 0, 0, 0, [[120]], true⟩ 1 w10 ⟨_, rfl, hq10⟩ ⟨ht2, ht1, ht0, ht0, ht0, ht0, by simp, by simp⟩ ⟨by simp, by simp, by simp⟩ ht1).mono ?_
  rintro en w11 ⟨y11, yo11, e11, out11, rfl, heq11, hq11, ho11, hx11⟩
  have hl : out11.length = 1 := by
    have h1 := poll_one
    rw [← heq11] at h1
    exact h1
  obtain ⟨A11, c11, rfl, _⟩ := hq11.form
  obtain ⟨B11, d11, rfl, _⟩ := ho11.form
  rw [hl]
  have hP := heap_alloc_new w11 (.cells #[.int .i64 0, .int .i64 0, .int .i64 0, .int .i64 0, .int .i64 0, .int .i64 0, .slice none 0 0, .bool false] 26)
  have hst := run_storeAt_blk (P := Try.prog) (w11.alloc (.cells #[.int .i64 0, .int .i64 0, .int .i64 0, .int .i64 0, .int .i64 0, .int .i64 0, .slice none 0 0, .bool false] 26)) w11.heap.size 26 26 _ #[.int .i64 e11.epoch, .int .i64 e11.peer, .int .i64 e11.acked, .int .i64 e11.sent, .int .i64 e11.got, .int .i64 e11.timer, .slice A11 e11.queue.length c11, .bool e11.owe] hP ep_size rfl (by simp [Value.oneCell'])
  clear hld heq11 hl hq11 ho11
  go_upto_region 7 with first | refine wpList_store_run rfl 26 (.tmp 8) (.tmp 42) rfl _ _ _ rfl rfl hst ?_
  have hX12 := hx11.trans (((Ext.refl w11).alloc (.cells #[.int .i64 0, .int .i64 0, .int .i64 0, .int .i64 0, .int .i64 0, .int .i64 0, .slice none 0 0, .bool false] 26)).grown (gsetRow (w11.alloc (.cells #[.int .i64 0, .int .i64 0, .int .i64 0, .int .i64 0, .int .i64 0, .int .i64 0, .slice none 0 0, .bool false] 26)) w11.heap.size #[.int .i64 e11.epoch, .int .i64 e11.peer, .int .i64 e11.acked, .int .i64 e11.sent, .int .i64 e11.got, .int .i64 e11.timer, .slice A11 e11.queue.length c11, .bool e11.owe]) (fun k e => by cases e; exact Nat.le_refl _))
  have hE12 := hE10.trans hX12
  have hB12 := hX12.heap hB8'
  clear hst hP hX12 hx11 hE10 hB8' hB10 hq10
  generalize (w11.alloc (.cells #[.int .i64 0, .int .i64 0, .int .i64 0, .int .i64 0, .int .i64 0, .int .i64 0, .slice none 0 0, .bool false] 26)).setRow w11.heap.size #[.int .i64 e11.epoch, .int .i64 e11.peer, .int .i64 e11.acked, .int .i64 e11.sent, .int .i64 e11.got, .int .i64 e11.timer, .slice A11 e11.queue.length c11, .bool e11.owe] = w12 at *
  obtain ⟨q0, q1, q2, q3, q4, q5, q6, q7⟩ := blk8 hB12
  go_wp2_with fail
  go_ret
  exact ⟨rfl, hE12⟩
end Go.Proofs.Ytnobepobalpccaa
