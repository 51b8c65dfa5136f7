/- The walk of the specification's readAttr. -/
import Derived.Test.YtopanbcodfkedaaInfZb
namespace Go.Proofs.Ytopanbcodfkedaa
open Go.RowKit
set_option linter.unusedVariables false
set_option linter.unusedSimpArgs false

/-- the boxes of a walk beside a reader -/
structure XA (w : World) (gr g6 g7 : Nat) (x : Value) (s : RS18) (C : Array Value) (W : World) : Prop where
  rd : RBlk gr x s W
  b6 : W.heap[g6]? = some (.cells #[.int .i64 0, .int .i64 0, .int .i64 0, .string ByteArray.empty] 40 (0, 0))
  b7 : W.heap[g7]? = some (.cells C 40 (0, 0))
  ne : g6 ≠ g7
  low6 : w.heap.size ≤ g6
  low7 : w.heap.size ≤ g7
  kept : Kept w.heap.size [gr] w W
section
variable {w W W' : World} {gr g6 g7 : Nat} {x : Value} {s s' : RS18} {C : Array Value}
theorem RBlk.ne_at (h : RBlk gr x s W) {g : Nat} {D : Array Value} (hg : W.heap[g]? = some (.cells D 40 (0, 0))) : gr ≠ g := fun e => by
  subst e
  unfold RBlk at h
  rw [h] at hg
  injection hg with hg
  injection hg with _ ht
  exact absurd ht (by decide)
theorem XA.reader (h : XA w gr g6 g7 x s C W) (hb : RBlk gr x s' W') (hg : W.grownBy W' (some gr)) : XA w gr g6 g7 x s' C W' :=
  ⟨hb, blk_grown h.b6 hg (fun e => h.rd.ne_at h.b6 (by injection e with e; exact e.symm)), blk_grown h.b7 hg (fun e => h.rd.ne_at h.b7 (by injection e with e; exact e.symm)), h.ne, h.low6, h.low7, h.kept.trans (Kept.of_grown hg h.kept.size (fun k e => by cases e; exact .inr (by simp)))⟩
theorem XA.put (h : XA w gr g6 g7 x s C W) (j : Nat) (v : Value) : XA w gr g6 g7 x s (C.setIfInBounds j v) (W.setCell ⟨g7, j, none⟩ v) :=
  ⟨blk_grown h.rd (gset W ⟨g7, j, none⟩ v) (fun e => h.rd.ne_at h.b7 (by injection e)), blk_grown h.b6 (gset W ⟨g7, j, none⟩ v) (fun e => h.ne (by injection e)), blk_set h.b7 j v, h.ne, h.low6, h.low7, h.kept.trans (Kept.of_grown (gset W ⟨g7, j, none⟩ v) h.kept.size (fun k e => by cases e; exact .inl h.low7))⟩
theorem XA.ext (h : XA w gr g6 g7 x s C W) (he : Ext W W') : XA w gr g6 g7 x s C W' := ⟨he.heap h.rd, he.heap h.b6, he.heap h.b7, h.ne, h.low6, h.low7, h.kept.trans (Kept.of_ext he h.kept.size)⟩
end
def AttPst (gr : Nat) (x : Value) (r : Att × RS18) (w : World) (en : Ending) (w' : World) : Prop := en = .returned (.agg #[.int .i64 r.1.name, .int .i64 r.1.form, .int .i64 r.1.value, .string r.1.text]) ∧ RBlk gr x r.2 w' ∧ Kept w.heap.size [gr] w w'
set_option maxHeartbeats 40000000 in
set_option maxRecDepth 100000 in
theorem readAttr_any (gr : Nat) (x : Value) (b : List UInt8) (s : RS18) (nm fm : Int) (w : World) (hx : St [gr] w (fun W => InB W x b)) (hb : RBlk gr x s w) (hl : b.length ≤ 1000000) :
    Calls Try.prog 55 #[.pointer (some ⟨gr, 0, none⟩), .int .i64 nm, .int .i64 fm] w (AttPst gr x (attS b nm fm s) w) := by
  obtain ⟨A, c, rfl, _, _⟩ := id (hx w (Kept.refl _ _ _))
  obtain ⟨n0, hn0⟩ : ∃ n0, n0 = b.length := ⟨_, rfl⟩
  obtain ⟨X, hX⟩ : ∃ X, X = Value.slice A n0 c := ⟨_, rfl⟩
  have hXe : Value.slice A b.length c = X := by rw [hX, hn0]
  rw [hXe] at hx hb ⊢
  have HXE := Lib.hid hX
  have HN0 := Lib.hid hn0
  have HX := Lib.hid hx
  have hgr := heap_lt hb
  clear hx hn0 hXe hX
  go_enter Try.func55, Try.ntmps55
  go_upto_region 1 with fail
  rw [show ({ data := #[] } : ByteArray) = ByteArray.empty from rfl]
  have hE0 := (Ext.refl w).alloc (.cells #[.int .i64 0, .int .i64 0, .int .i64 0, .string ByteArray.empty] 40)
  have hB0 := heap_alloc_new w (.cells #[.int .i64 0, .int .i64 0, .int .i64 0, .string ByteArray.empty] 40)
  have hb0 : RBlk gr X s (w.alloc (.cells #[.int .i64 0, .int .i64 0, .int .i64 0, .string ByteArray.empty] 40)) := hE0.heap hb
  obtain ⟨g6, hg6⟩ : ∃ g, g = w.heap.size := ⟨_, rfl⟩
  have hl6 : w.heap.size ≤ g6 := by omega
  rw [← hg6] at hB0 ⊢
  clear hg6
  generalize w.alloc (.cells #[.int .i64 0, .int .i64 0, .int .i64 0, .string ByteArray.empty] 40) = W0 at *
  obtain ⟨hst, hG, hXG⟩ := box_new (P := Try.prog) W0 40 #[.int .i64 0, .int .i64 0, .int .i64 0, .string ByteArray.empty] #[.int .i64 nm, .int .i64 fm, .int .i64 0, .string ByteArray.empty] at_size rfl (by simp [Value.oneCell'])
  go_upto_region 2 with first | refine wpList_store_run rfl 40 (.tmp 7) (.tmp 13) rfl _ _ _ rfl rfl hst ?_
  obtain ⟨g7, hg7⟩ : ∃ g, g = W0.heap.size := ⟨_, rfl⟩
  have hl7 : w.heap.size ≤ g7 := by have := hE0.size; omega
  have hne : g6 ≠ g7 := by have := heap_lt hB0; omega
  have hS : XA w gr g6 g7 X s #[.int .i64 nm, .int .i64 fm, .int .i64 0, .string ByteArray.empty] ((W0.alloc (.cells #[.int .i64 0, .int .i64 0, .int .i64 0, .string ByteArray.empty] 40)).setRow W0.heap.size #[.int .i64 nm, .int .i64 fm, .int .i64 0, .string ByteArray.empty]) := ⟨hXG.heap hb0, hXG.heap hB0, by rw [hg7]; exact hG, hne, hl6, hl7, Kept.of_ext (hE0.trans hXG) (Nat.le_refl _)⟩
  rw [← hg7] at hS ⊢
  clear hst hG hXG hg7 hl7 hne hB0 hb0 hE0 hb
  generalize (W0.alloc (.cells #[.int .i64 0, .int .i64 0, .int .i64 0, .string ByteArray.empty] 40)).setRow g7 #[.int .i64 nm, .int .i64 fm, .int .i64 0, .string ByteArray.empty] = W1 at *
  try dsimp only [Act.put]
  by_cases e1 : fm = 1
  case pos =>
    have t1 : (fm == 1) = true := by simp [e1]
    have t1' : decide (fm = 1) = true := by simp [e1]
    have HP : Hid (attS b nm fm s = (⟨nm, fm, (smallS b s).1, ByteArray.empty⟩, (smallS b s).2)) := Lib.hid (by unfold attS; rw [if_pos e1])
    clear e1
    have hib := HX.out _ hS.kept
    have hrb := hS.rd
    go_wp2_with fail
    refine (rSmall_any gr X b s W1 hib hrb hl).mono ?_
    rintro en0 W2 ⟨rfl, hb2, hg2⟩
    have hS2 := hS.reader hb2 hg2
    generalize smallS b s = u at *
    obtain ⟨v, s2⟩ := u
    dsimp only at hb2 hS2 HP ⊢
    clear hib hrb hb2 hg2 hS
    obtain ⟨q0, q1, q2, q3⟩ := blkR hS2.b7
    have f2 := blk_free hS2.b7 2
    have hlt7 := heap_lt hS2.b7
    have hS3 := hS2.put 2 (.int .i64 v)
    simp only [List.setIfInBounds_toArray, List.set_cons_succ, List.set_cons_zero] at hS3
    go_upto_region 16 with fail
    clear q0 q1 q2 q3 f2 hlt7 hS2
    generalize W2.setCell ⟨g7, 2, none⟩ (.int .i64 v) = W3 at *
    try dsimp only [Act.put]
    have hldt := run_loadAt_blk (P := Try.prog) W3 g7 40 40 _ (0, 0) _ hS3.b7 Try.underlying40 rfl at_size
    have hstr := run_storeAt_blk (P := Try.prog) W3 g6 40 40 _ #[.int .i64 nm, .int .i64 fm, .int .i64 v, .string ByteArray.empty] hS3.b6 at_size rfl (by simp [Value.oneCell'])
    have hgr6 := gsetRow W3 g6 #[.int .i64 nm, .int .i64 fm, .int .i64 v, .string ByteArray.empty]
    have hGr := setRow_heap W3 g6 _ #[.int .i64 nm, .int .i64 fm, .int .i64 v, .string ByteArray.empty] _ _ hS3.b6
    have hkr := hS3.kept.trans (Kept.of_grown hgr6 hS3.kept.size (fun k e => by cases e; exact .inl hS3.low6))
    have hrr := blk_grown hS3.rd hgr6 (fun e => hS3.rd.ne_at hS3.b6 (by injection e))
    clear hS3 hgr6
    go_wp2_with first | refine wpList_load_run rfl 40 (.tmp 7) rfl _ _ rfl hldt ?_ | refine wpList_store_run rfl 40 (.tmp 6) (.tmp 61) rfl _ _ _ rfl rfl hstr ?_
    have z0 := blk_at hGr 0 _ rfl
    have z1 := blk_at hGr 1 _ rfl
    have z2 := blk_at hGr 2 _ rfl
    have z3 := blk_at hGr 3 _ rfl
    refine bodyPost_ret (v := .agg #[.int .i64 nm, .int .i64 fm, .int .i64 v, .string ByteArray.empty]) (by simp [results, Try.results55, go_sem, z0, z1, z2, z3]) rfl ?_
    rw [HP.out]
    exact ⟨rfl, hrr, hkr⟩
  have t1 : (fm == 1) = false := by simp [e1]
  have t1' : decide (fm = 1) = false := by simp [e1]
  by_cases e2 : fm = 2
  case pos =>
    have t2 : (fm == 2) = true := by simp [e2]
    have t2' : decide (fm = 2) = true := by simp [e2]
    have HP : Hid (attS b nm fm s = (⟨nm, fm, (intS b s).1, ByteArray.empty⟩, (intS b s).2)) := Lib.hid (by unfold attS; rw [if_neg e1, if_pos e2])
    clear e1 e2
    have hib := HX.out _ hS.kept
    have hrb := hS.rd
    go_wp2_with fail
    refine (rInt_any gr X b s W1 hib hrb hl).mono ?_
    rintro en0 W2 ⟨rfl, hb2, hg2⟩
    have hS2 := hS.reader hb2 hg2
    generalize intS b s = u at *
    obtain ⟨v, s2⟩ := u
    dsimp only at hb2 hS2 HP ⊢
    clear hib hrb hb2 hg2 hS
    obtain ⟨q0, q1, q2, q3⟩ := blkR hS2.b7
    have f2 := blk_free hS2.b7 2
    have hlt7 := heap_lt hS2.b7
    have hS3 := hS2.put 2 (.int .i64 v)
    simp only [List.setIfInBounds_toArray, List.set_cons_succ, List.set_cons_zero] at hS3
    go_upto_region 16 with fail
    clear q0 q1 q2 q3 f2 hlt7 hS2
    generalize W2.setCell ⟨g7, 2, none⟩ (.int .i64 v) = W3 at *
    try dsimp only [Act.put]
    have hldt := run_loadAt_blk (P := Try.prog) W3 g7 40 40 _ (0, 0) _ hS3.b7 Try.underlying40 rfl at_size
    have hstr := run_storeAt_blk (P := Try.prog) W3 g6 40 40 _ #[.int .i64 nm, .int .i64 fm, .int .i64 v, .string ByteArray.empty] hS3.b6 at_size rfl (by simp [Value.oneCell'])
    have hgr6 := gsetRow W3 g6 #[.int .i64 nm, .int .i64 fm, .int .i64 v, .string ByteArray.empty]
    have hGr := setRow_heap W3 g6 _ #[.int .i64 nm, .int .i64 fm, .int .i64 v, .string ByteArray.empty] _ _ hS3.b6
    have hkr := hS3.kept.trans (Kept.of_grown hgr6 hS3.kept.size (fun k e => by cases e; exact .inl hS3.low6))
    have hrr := blk_grown hS3.rd hgr6 (fun e => hS3.rd.ne_at hS3.b6 (by injection e))
    clear hS3 hgr6
    go_wp2_with first | refine wpList_load_run rfl 40 (.tmp 7) rfl _ _ rfl hldt ?_ | refine wpList_store_run rfl 40 (.tmp 6) (.tmp 61) rfl _ _ _ rfl rfl hstr ?_
    have z0 := blk_at hGr 0 _ rfl
    have z1 := blk_at hGr 1 _ rfl
    have z2 := blk_at hGr 2 _ rfl
    have z3 := blk_at hGr 3 _ rfl
    refine bodyPost_ret (v := .agg #[.int .i64 nm, .int .i64 fm, .int .i64 v, .string ByteArray.empty]) (by simp [results, Try.results55, go_sem, z0, z1, z2, z3]) rfl ?_
    rw [HP.out]
    exact ⟨rfl, hrr, hkr⟩
  have t2 : (fm == 2) = false := by simp [e2]
  have t2' : decide (fm = 2) = false := by simp [e2]
  by_cases e3 : fm = 3
  case neg =>
    have t3 : (fm == 3) = false := by simp [e3]
    have t3' : decide (fm = 3) = false := by simp [e3]
    have HP : Hid (attS b nm fm s = (⟨nm, fm, 1, ByteArray.empty⟩, s)) := Lib.hid (by unfold attS; rw [if_neg e1, if_neg e2, if_neg e3])
    clear e1 e2 e3
    obtain ⟨q0, q1, q2, q3⟩ := blkR hS.b7
    have f2 := blk_free hS.b7 2
    have hlt7 := heap_lt hS.b7
    have hS3 := hS.put 2 (.int .i64 1)
    simp only [List.setIfInBounds_toArray, List.set_cons_succ, List.set_cons_zero] at hS3
    go_upto_region 16 with fail
    clear q0 q1 q2 q3 f2 hlt7 hS
    generalize W1.setCell ⟨g7, 2, none⟩ (.int .i64 1) = W3 at *
    try dsimp only [Act.put]
    have hldt := run_loadAt_blk (P := Try.prog) W3 g7 40 40 _ (0, 0) _ hS3.b7 Try.underlying40 rfl at_size
    have hstr := run_storeAt_blk (P := Try.prog) W3 g6 40 40 _ #[.int .i64 nm, .int .i64 fm, .int .i64 1, .string ByteArray.empty] hS3.b6 at_size rfl (by simp [Value.oneCell'])
    have hgr6 := gsetRow W3 g6 #[.int .i64 nm, .int .i64 fm, .int .i64 1, .string ByteArray.empty]
    have hGr := setRow_heap W3 g6 _ #[.int .i64 nm, .int .i64 fm, .int .i64 1, .string ByteArray.empty] _ _ hS3.b6
    have hkr := hS3.kept.trans (Kept.of_grown hgr6 hS3.kept.size (fun k e => by cases e; exact .inl hS3.low6))
    have hrr := blk_grown hS3.rd hgr6 (fun e => hS3.rd.ne_at hS3.b6 (by injection e))
    clear hS3 hgr6
    go_wp2_with first | refine wpList_load_run rfl 40 (.tmp 7) rfl _ _ rfl hldt ?_ | refine wpList_store_run rfl 40 (.tmp 6) (.tmp 61) rfl _ _ _ rfl rfl hstr ?_
    have z0 := blk_at hGr 0 _ rfl
    have z1 := blk_at hGr 1 _ rfl
    have z2 := blk_at hGr 2 _ rfl
    have z3 := blk_at hGr 3 _ rfl
    refine bodyPost_ret (v := .agg #[.int .i64 nm, .int .i64 fm, .int .i64 1, .string ByteArray.empty]) (by simp [results, Try.results55, go_sem, z0, z1, z2, z3]) rfl ?_
    rw [HP.out]
    exact ⟨rfl, hrr, hkr⟩
  have t3 : (fm == 3) = true := by simp [e3]
  have t3' : decide (fm = 3) = true := by simp [e3]
  obtain ⟨p, er0⟩ := s
  by_cases h0 : er0 = 0
  case neg =>
    have d0 : (er0 == 0) = false := by simpa using h0
    have d0' : decide (er0 = 0) = false := by simpa using h0
    have d40 : decide ((40 : Int) < 0) = false := by decide
    have HP : Hid (attS b nm fm ⟨p, er0⟩ = (⟨nm, fm, 0, ByteArray.empty⟩, ⟨p, er0⟩)) := Lib.hid (by unfold attS; rw [if_neg e1, if_neg e2, if_pos e3, if_neg h0])
    clear e1 e2 e3 h0
    obtain ⟨q0, q1, q2, q3⟩ := blkR hS.b7
    obtain ⟨k0, k1, k2⟩ := blk3' hS.rd
    have hsz : ByteArray.empty.size = 0 := rfl
    go_upto_region 16 with fail
    clear q0 q1 q2 q3 k0 k1 k2
    have hldt := run_loadAt_blk (P := Try.prog) W1 g7 40 40 _ (0, 0) _ hS.b7 Try.underlying40 rfl at_size
    have hstr := run_storeAt_blk (P := Try.prog) W1 g6 40 40 _ #[.int .i64 nm, .int .i64 fm, .int .i64 0, .string ByteArray.empty] hS.b6 at_size rfl (by simp [Value.oneCell'])
    have hgr6 := gsetRow W1 g6 #[.int .i64 nm, .int .i64 fm, .int .i64 0, .string ByteArray.empty]
    have hGr := setRow_heap W1 g6 _ #[.int .i64 nm, .int .i64 fm, .int .i64 0, .string ByteArray.empty] _ _ hS.b6
    have hkr := hS.kept.trans (Kept.of_grown hgr6 hS.kept.size (fun k e => by cases e; exact .inl hS.low6))
    have hrr := blk_grown hS.rd hgr6 (fun e => hS.rd.ne_at hS.b6 (by injection e))
    clear hS hgr6
    go_wp2_with first | refine wpList_load_run rfl 40 (.tmp 7) rfl _ _ rfl hldt ?_ | refine wpList_store_run rfl 40 (.tmp 6) (.tmp 61) rfl _ _ _ rfl rfl hstr ?_
    have z0 := blk_at hGr 0 _ rfl
    have z1 := blk_at hGr 1 _ rfl
    have z2 := blk_at hGr 2 _ rfl
    have z3 := blk_at hGr 3 _ rfl
    refine bodyPost_ret (v := .agg #[.int .i64 nm, .int .i64 fm, .int .i64 0, .string ByteArray.empty]) (by simp [results, Try.results55, go_sem, z0, z1, z2, z3]) rfl ?_
    rw [HP.out]
    exact ⟨rfl, hrr, hkr⟩
  subst h0
  have d0 : ((0 : Int) == 0) = true := rfl
  have d0' : decide ((0 : Int) = 0) = true := rfl
  have hs3 : attS b nm fm ⟨p, 0⟩ = (⟨nm, fm, 0, ⟨(textR b p).1.toArray⟩⟩, if 40 < (textR b p).1.length then failS 5 (failS (textR b p).2.2 ⟨(textR b p).2.1, 0⟩) else failS (textR b p).2.2 ⟨(textR b p).2.1, 0⟩) := by unfold attS txtF; rw [if_neg e1, if_neg e2, if_pos e3, if_pos rfl]
  have HS3 := Lib.hid hs3
  clear e1 e2 e3 hs3
  obtain ⟨tx, next, er, hr⟩ : ∃ tx next er, textR b p = (tx, next, er) := ⟨_, _, _, rfl⟩
  have HR := Lib.hid hr
  rw [hr] at HS3
  dsimp only at HS3
  clear hr
  obtain ⟨k0, k1, k2⟩ := blk3' hS.rd
  have hXf : X = .slice A n0 c := HXE.out
  rw [hXf] at k0
  have HXf := Lib.hid hXf
  clear hXf
  go_upto_region 10 with fail
  obtain ⟨tv, htv⟩ : ∃ t : ByteArray, t = ⟨tx.toArray⟩ := ⟨_, rfl⟩
  have htsz0 : tv.size = tx.length := by rw [htv]; simp [ByteArray.size]
  have HTV := Lib.hid htv
  have HTZ := Lib.hid htsz0
  clear htv htsz0
  refine wp_region_X #[true, true, true, true, true, true, true, true, true, true, true, true, true, false, false, false] 13 3 (by kernel_rfl) rfl ?_
  refine wpX_vt 0 (.pointer (some ⟨gr, 0, none⟩)) rfl rfl (by kernel_rfl) (by kernel_rfl) (by kernel_rfl) (fun _ _ _ _ h => h) (by kernel_rfl) rfl (by rfl) (fun W' hW => by
    skip
    go_simp) ?_
  simp only [List.setIfInBounds_toArray, List.set_cons_zero, List.set_cons_succ]
  refine wpX_vt 1 (.pointer (some ⟨gr, 0, none⟩)) rfl rfl (by kernel_rfl) (by kernel_rfl) (by kernel_rfl) (fun _ _ _ _ h => h) (by kernel_rfl) rfl (by rfl) (fun W' hW => by
    skip
    go_simp) ?_
  simp only [List.setIfInBounds_toArray, List.set_cons_zero, List.set_cons_succ]
  refine wpX_vt 2 (.pointer (some ⟨gr, 0, none⟩)) rfl rfl (by kernel_rfl) (by kernel_rfl) (by kernel_rfl) (fun _ _ _ _ h => h) (by kernel_rfl) rfl (by rfl) (fun W' hW => by
    skip
    go_simp) ?_
  simp only [List.setIfInBounds_toArray, List.set_cons_zero, List.set_cons_succ]
  refine wpX_vt 3 (.slice A n0 c) rfl rfl (by kernel_rfl) (by kernel_rfl) (by kernel_rfl) (fun _ _ _ _ h => h) (by kernel_rfl) rfl (by rfl) (fun W' hW => by
    have z := (((Ext.refl W1).drew).trans hW).cell k0
    go_simp) ?_
  simp only [List.setIfInBounds_toArray, List.set_cons_zero, List.set_cons_succ]
  refine wpX_vt 4 (.pointer (some ⟨gr, 0, none⟩)) rfl rfl (by kernel_rfl) (by kernel_rfl) (by kernel_rfl) (fun _ _ _ _ h => h) (by kernel_rfl) rfl (by rfl) (fun W' hW => by
    skip
    go_simp) ?_
  simp only [List.setIfInBounds_toArray, List.set_cons_zero, List.set_cons_succ]
  refine wpX_vt 5 (.pointer (some ⟨gr, 0, none⟩)) rfl rfl (by kernel_rfl) (by kernel_rfl) (by kernel_rfl) (fun _ _ _ _ h => h) (by kernel_rfl) rfl (by rfl) (fun W' hW => by
    skip
    go_simp) ?_
  simp only [List.setIfInBounds_toArray, List.set_cons_zero, List.set_cons_succ]
  refine wpX_vt 6 (.pointer (some ⟨gr, 1, none⟩)) rfl rfl (by kernel_rfl) (by kernel_rfl) (by kernel_rfl) (fun _ _ _ _ h => h) (by kernel_rfl) rfl (by rfl) (fun W' hW => by
    skip
    go_simp) ?_
  simp only [List.setIfInBounds_toArray, List.set_cons_zero, List.set_cons_succ]
  refine wpX_vt 7 (.int .i64 p) rfl rfl (by kernel_rfl) (by kernel_rfl) (by kernel_rfl) (fun _ _ _ _ h => h) (by kernel_rfl) rfl (by rfl) (fun W' hW => by
    have z := (((Ext.refl W1).drew).trans hW).cell k1
    go_simp) ?_
  simp only [List.setIfInBounds_toArray, List.set_cons_zero, List.set_cons_succ]
  refine wpX_c 8 63 #[.slice A n0 c, .int .i64 p] rfl rfl (by kernel_rfl) rfl rfl (fun W => by go_simp) ?_
  intro Wa hWa
  have hXa := ((Ext.refl W1).drew).trans hWa
  have hxa : InB Wa (.slice A n0 c) b := by rw [← HXf.out]; exact HX.out _ (hS.kept.trans (Kept.of_ext hXa hS.kept.size))
  refine (refText_any _ b p Wa hxa (by omega)).mono ?_
  rw [HR.out]
  rintro en w5 ⟨rfl, rfl⟩
  dsimp only
  rw [← HTV.out]
  refine ⟨_, rfl, Ext.refl _, ?_⟩
  simp only [List.setIfInBounds_toArray, List.set_cons_zero, List.set_cons_succ]
  refine wpX_vt 9 (.tuple #[.string tv, .int .i64 next, .int .i64 er]) rfl rfl (by kernel_rfl) (by kernel_rfl) (by kernel_rfl) (fun _ _ _ _ h => h) (by kernel_rfl) rfl (by rfl) (fun W' hW => by
    skip
    go_simp) ?_
  simp only [List.setIfInBounds_toArray, List.set_cons_zero, List.set_cons_succ]
  refine wpX_vt 10 (.string tv) rfl rfl (by kernel_rfl) (by kernel_rfl) (by kernel_rfl) (fun _ _ _ _ h => h) (by kernel_rfl) rfl (by rfl) (fun W' hW => by
    skip
    go_simp) ?_
  simp only [List.setIfInBounds_toArray, List.set_cons_zero, List.set_cons_succ]
  refine wpX_l 11 (.int .i64 next) rfl rfl (by kernel_rfl) (by kernel_rfl) (by kernel_rfl) (fun _ _ _ _ h => h) (LateOK_any rfl (by kernel_rfl) (fun _ _ _ h => h)) rfl (by rfl) (fun W' => by go_simp) ?_
  simp only [List.setIfInBounds_toArray, List.set_cons_zero, List.set_cons_succ]
  refine wpX_l 12 (.int .i64 er) rfl rfl (by kernel_rfl) (by kernel_rfl) (by kernel_rfl) (fun _ _ _ _ h => h) (LateOK_any rfl (by kernel_rfl) (fun _ _ _ h => h)) rfl (by rfl) (fun W' => by go_simp) ?_
  simp only [List.setIfInBounds_toArray, List.set_cons_zero, List.set_cons_succ]
  refine wpX_end rfl fun W7 hW7 => tail_seq 13 rfl (by kernel_rfl) ?_
  simp only [List.drop_succ_cons, List.drop_zero]
  have hX7 := hXa.trans hW7
  have hS7 := hS.ext hX7
  have f1 := blk_free hS7.rd 1
  obtain ⟨k0, k1, k2⟩ := blk3' hS7.rd
  have hlt := heap_lt hS7.rd
  clear hWa hXa hW7 hxa hS
  go_wp2_with fail
  refine NoPanic.normal ?_
  have hg7 := gset W7 ⟨gr, 1, none⟩ (.int .i64 next)
  have hb7 : RBlk gr X ⟨next, 0⟩ (W7.setCell ⟨gr, 1, none⟩ (.int .i64 next)) := blk_set hS7.rd 1 _
  have hS8 := hS7.reader hb7 hg7
  go_upto_region 12 with fail
  clear f1 k0 k1 k2 hlt hg7 hb7 hS7
  generalize W7.setCell ⟨gr, 1, none⟩ (.int .i64 next) = W8 at *
  try dsimp only [Act.put]
  have hrb := hS8.rd
  go_wp2_with fail
  refine (rFail_any gr X er ⟨next, 0⟩ W8 hrb).mono ?_
  rintro en0 W9 ⟨⟨vf, rfl⟩, hb9, hg9⟩
  have hS9 := hS8.reader hb9 hg9
  clear hrb hb9 hg9 hS8
  obtain ⟨s9, hs9⟩ : ∃ z, z = failS er ⟨next, 0⟩ := ⟨_, rfl⟩
  rw [← hs9] at hS9 HS3
  clear hs9
  obtain ⟨q0, q1, q2, q3⟩ := blkR hS9.b7
  have f2 := blk_free hS9.b7 3
  have hlt7 := heap_lt hS9.b7
  have hSa := hS9.put 3 (.string tv)
  simp only [List.setIfInBounds_toArray, List.set_cons_succ, List.set_cons_zero] at hSa
  go_upto_region 14 with fail
  clear q0 q1 q2 q3 f2 hlt7 hS9
  generalize W9.setCell ⟨g7, 3, none⟩ (.string tv) = Wt at *
  try dsimp only [Act.put]
  obtain ⟨q0, q1, q2, q3⟩ := blkR hSa.b7
  have hrb := hSa.rd
  by_cases h4 : 40 < tx.length
  · have d4 : decide ((40 : Int) < (tv.size : Int)) = true := by rw [HTZ.out]; simp; omega
    have HP : Hid (attS b nm fm ⟨p, 0⟩ = (⟨nm, fm, 0, tv⟩, failS 5 s9)) := Lib.hid (by rw [HS3.out, if_pos h4, HTV.out])
    clear h4
    go_wp2_with fail
    refine (rFail_any gr X 5 s9 Wt hrb).mono ?_
    rintro en0 Wu ⟨⟨vf, rfl⟩, hbu, hgu⟩
    have hSb := hSa.reader hbu hgu
    clear hrb hbu hgu hSa q0 q1 q2 q3
    have hldt := run_loadAt_blk (P := Try.prog) Wu g7 40 40 _ (0, 0) _ hSb.b7 Try.underlying40 rfl at_size
    have hstr := run_storeAt_blk (P := Try.prog) Wu g6 40 40 _ #[.int .i64 nm, .int .i64 fm, .int .i64 0, .string tv] hSb.b6 at_size rfl (by simp [Value.oneCell'])
    have hgr6 := gsetRow Wu g6 #[.int .i64 nm, .int .i64 fm, .int .i64 0, .string tv]
    have hGr := setRow_heap Wu g6 _ #[.int .i64 nm, .int .i64 fm, .int .i64 0, .string tv] _ _ hSb.b6
    have hkr := hSb.kept.trans (Kept.of_grown hgr6 hSb.kept.size (fun k e => by cases e; exact .inl hSb.low6))
    have hrr := blk_grown hSb.rd hgr6 (fun e => hSb.rd.ne_at hSb.b6 (by injection e))
    clear hSb hgr6
    go_wp2_with first | refine wpList_load_run rfl 40 (.tmp 7) rfl _ _ rfl hldt ?_ | refine wpList_store_run rfl 40 (.tmp 6) (.tmp 61) rfl _ _ _ rfl rfl hstr ?_
    have z0 := blk_at hGr 0 _ rfl
    have z1 := blk_at hGr 1 _ rfl
    have z2 := blk_at hGr 2 _ rfl
    have z3 := blk_at hGr 3 _ rfl
    refine bodyPost_ret (v := .agg #[.int .i64 nm, .int .i64 fm, .int .i64 0, .string tv]) (by simp [results, Try.results55, go_sem, z0, z1, z2, z3]) rfl ?_
    rw [HP.out]
    exact ⟨rfl, hrr, hkr⟩
  · have d4 : decide ((40 : Int) < (tv.size : Int)) = false := by rw [HTZ.out]; simp; omega
    have HP : Hid (attS b nm fm ⟨p, 0⟩ = (⟨nm, fm, 0, tv⟩, s9)) := Lib.hid (by rw [HS3.out, if_neg h4, HTV.out])
    clear h4 hrb
    go_upto_region 16 with fail
    clear q0 q1 q2 q3
    have hldt := run_loadAt_blk (P := Try.prog) Wt g7 40 40 _ (0, 0) _ hSa.b7 Try.underlying40 rfl at_size
    have hstr := run_storeAt_blk (P := Try.prog) Wt g6 40 40 _ #[.int .i64 nm, .int .i64 fm, .int .i64 0, .string tv] hSa.b6 at_size rfl (by simp [Value.oneCell'])
    have hgr6 := gsetRow Wt g6 #[.int .i64 nm, .int .i64 fm, .int .i64 0, .string tv]
    have hGr := setRow_heap Wt g6 _ #[.int .i64 nm, .int .i64 fm, .int .i64 0, .string tv] _ _ hSa.b6
    have hkr := hSa.kept.trans (Kept.of_grown hgr6 hSa.kept.size (fun k e => by cases e; exact .inl hSa.low6))
    have hrr := blk_grown hSa.rd hgr6 (fun e => hSa.rd.ne_at hSa.b6 (by injection e))
    clear hSa hgr6
    go_wp2_with first | refine wpList_load_run rfl 40 (.tmp 7) rfl _ _ rfl hldt ?_ | refine wpList_store_run rfl 40 (.tmp 6) (.tmp 61) rfl _ _ _ rfl rfl hstr ?_
    have z0 := blk_at hGr 0 _ rfl
    have z1 := blk_at hGr 1 _ rfl
    have z2 := blk_at hGr 2 _ rfl
    have z3 := blk_at hGr 3 _ rfl
    refine bodyPost_ret (v := .agg #[.int .i64 nm, .int .i64 fm, .int .i64 0, .string tv]) (by simp [results, Try.results55, go_sem, z0, z1, z2, z3]) rfl ?_
    rw [HP.out]
    exact ⟨rfl, hrr, hkr⟩
end Go.Proofs.Ytopanbcodfkedaa
