/- What damage does to a datagram. -/
import Derived.Test.YtnobepobalpccaaProtB
namespace Go.Proofs.Ytnobepobalpccaa
open Go.RowKit
set_option linter.unusedVariables false

def hiM (f : Fate) : UInt8 := UInt8.ofNat (f.mask / 256).toNat
def loM (f : Fate) : UInt8 := UInt8.ofNat (f.mask % 256).toNat
def dmgA (f : Fate) (i : Nat) (c : UInt8) : UInt8 := if (i : Int) = f.at_ then c ^^^ hiM f else c
def dmgC (f : Fate) (i : Nat) : Prop := (0 < i ∧ (i : Int) - 1 = f.at_) ∨ (i = 0 ∧ f.at_ = -1)
instance (f : Fate) (i : Nat) : Decidable (dmgC f i) := by unfold dmgC; infer_instance
def dmgB (f : Fate) (i : Nat) (c : UInt8) : UInt8 := if dmgC f i then dmgA f i c ^^^ loM f else dmgA f i c
def dmgTo (b : List UInt8) (f : Fate) (j : Nat) : List UInt8 := b.mapIdx fun i c => if i < j then dmgB f i c else c
/-- what arrives -/
def damagedL (b : List UInt8) (f : Fate) : List UInt8 := b.mapIdx fun i c => dmgB f i c
theorem dmgTo_len (b : List UInt8) (f : Fate) (j : Nat) : (dmgTo b f j).length = b.length := by simp [dmgTo]
theorem dmgTo_zero (b : List UInt8) (f : Fate) : dmgTo b f 0 = b := by
  apply List.ext_getElem?
  intro i
  simp [dmgTo]
theorem dmgTo_all (b : List UInt8) (f : Fate) (j : Nat) (h : b.length ≤ j) : dmgTo b f j = damagedL b f := by
  apply List.ext_getElem
  · simp [dmgTo, damagedL]
  · intro i h1 h2
    have : i < j := by simp [dmgTo] at h1; omega
    simp [dmgTo, damagedL, this]
theorem dmgTo_at (b : List UInt8) (f : Fate) (j : Nat) (h : j < b.length) : (dmgTo b f j)[j]'(by rw [dmgTo_len]; exact h) = b[j] := by simp [dmgTo]
theorem dmgTo_step (b : List UInt8) (f : Fate) (j : Nat) (h : j < b.length) : dmgTo b f (j + 1) = (dmgTo b f j).set j (dmgB f j b[j]) := by
  apply List.ext_getElem
  · simp [dmgTo]
  · intro i h1 h2
    rw [List.getElem_set]
    by_cases e : j = i
    · subst e
      simp [dmgTo]
    · rw [if_neg e]
      simp only [dmgTo, List.getElem_mapIdx]
      by_cases h3 : i < j
      · rw [if_pos (by omega), if_pos h3]
      · rw [if_neg (by omega), if_neg h3]
theorem u8_xorB (a b : UInt8) : bits .xor .u8 (a.toNat : Int) (b.toNat : Int) = (((a ^^^ b).toNat : Nat) : Int) := by
  have := a.toNat_lt
  have := b.toNat_lt
  rw [UInt8.toNat_xor]
  show IntKind.u8.wrap ((BitVec.ofInt 8 (a.toNat : Int) ^^^ BitVec.ofInt 8 (b.toNat : Int)).toNat : Int) = _
  rw [BitVec.toNat_xor, BitVec.toNat_ofInt, BitVec.toNat_ofInt]
  have h1 : ((a.toNat : Int) % ((2 ^ 8 : Nat) : Int)).toNat = a.toNat := by omega
  have h2 : ((b.toNat : Int) % ((2 ^ 8 : Nat) : Int)).toNat = b.toNat := by omega
  rw [h1, h2]
  have : a.toNat ^^^ b.toNat < 2 ^ 8 := Nat.xor_lt_two_pow (by omega) (by omega)
  simp only [IntKind.wrap, IntKind.bits, IntKind.signed]
  simp
  omega
theorem hiM_val {f : Fate} (h : 0 ≤ f.mask ∧ f.mask < 65536) : IntKind.u8.wrap (f.mask / 256) = ((hiM f).toNat : Int) := by
  rw [hiM, ofNat_small (by omega)]
  simp only [IntKind.wrap, IntKind.bits, IntKind.signed]
  simp
  omega
theorem loM_val {f : Fate} (h : 0 ≤ f.mask ∧ f.mask < 65536) : IntKind.u8.wrap f.mask = ((loM f).toNat : Int) := by
  rw [loM, ofNat_small (by omega)]
  simp only [IntKind.wrap, IntKind.bits, IntKind.signed]
  simp
  omega
def DmgPost (b : List UInt8) (f : Fate) (w : World) (en : Ending) (w' : World) : Prop := ∃ y, en = .returned y ∧ OwnV bv 5 w.heap.size w' y (damagedL b f) ∧ Ext w w'
set_option maxHeartbeats 1000000 in
set_option maxRecDepth 100000 in
theorem damaged_any (x yd : Value) (b : List UInt8) (f : Fate) (w : World) (hx : InB w x b) (hb : b.length ≤ 1000000) (hm : 0 ≤ f.mask ∧ f.mask < 65536) (hyd : yd.oneCell' = true) (hat : -1000000 ≤ f.at_ ∧ f.at_ ≤ 1000000) :
    Calls Try.prog 23 #[x, .agg #[yd, .int .i64 f.at_, .int .i64 f.mask]] w (DmgPost b f w) := by
  obtain ⟨A, c, rfl, _, _⟩ := id hx
  have hhi := hiM_val hm
  have hlo := loM_val hm
  go_enter Try.func23, Try.ntmps23
  go_upto_region 1 with fail
  have hB := heap_alloc_new w (.cells #[yd, .int .i64 f.at_, .int .i64 f.mask] 44)
  have hE := (Ext.refl w).alloc (.cells #[yd, .int .i64 f.at_, .int .i64 f.mask] 44)
  have hsz : (w.alloc (.cells #[yd, .int .i64 f.at_, .int .i64 f.mask] 44)).heap.size = w.heap.size + 1 := by simp
  generalize w.alloc (.cells #[yd, .int .i64 f.at_, .int .i64 f.mask] 44) = W at *
  have HSZ := Lib.hid hsz
  clear hsz
  have hA1 := (Ext.refl W).alloc (.cells #[] 5)
  go_wp2_with (at_builtin; go_must (refine wpList_appendV elem_u8 (fun _ => rfl) rfl (.tmp 7) (.tmp 8) rfl W.heap.size _ [] rfl (ownV_empty W 5) _ b rfl (hx.ext (hE.trans hA1)) (by simp; omega) (by omega) hA1.size (Hold.out ?_)))
  refine Hold.mk fun v2 w2 ho2 hg2 => ?_
  have hE2 : Ext W w2 := hg2.ext hA1 (ownV_empty (f := bv) W 5).ge
  have ho3 : OwnV bv 5 (w.heap.size + 1) w2 v2 (dmgTo b f 0) := by rw [dmgTo_zero, ← HSZ.out]; simpa using ho2
  have hB2 := hE2.heap hB
  have hEw := hE.trans hE2
  obtain ⟨V, cv, hv, _, _⟩ := ho3.inV
  rw [dmgTo_len] at hv
  subst hv
  clear ho2 hg2 hA1 hE2 hB hE HSZ
  go_wp2_with fail
  go_loopw [6] (fun i wr => ∃ j : Nat, j ≤ b.length ∧ i = .int .i64 (j : Int) ∧ OwnV bv 5 (w.heap.size + 1) wr (.slice V b.length cv) (dmgTo b f j) ∧ wr.heap[w.heap.size]? = some (.cells #[yd, .int .i64 f.at_, .int .i64 f.mask] 44 (0, 0)) ∧ Ext w wr) (fun i _ => b.length - (intOf i).toNat)
  case atStart => exact ⟨0, by omega, rfl, ho3, hB2, hEw⟩
  case round =>
    clear ho3 hB2 hEw
    obtain ⟨j, hj, rfl, ho, hB, hE⟩ := hrel
    obtain ⟨wo, rfl⟩ : ∃ wo : World, wo = wr := ⟨_, rfl⟩
    by_cases hlt : j < b.length
    · have hij : (j : Int) < (b.length : Int) := by omega
      obtain ⟨g, cap, he, hg1, hg2⟩ := ho.form (by rw [dmgTo_len]; omega)
      rw [dmgTo_len] at he
      injection he with he1 he2 he3
      subst he1
      subst he3
      obtain ⟨q0, q1, q2⟩ := blk3 hB
      obtain ⟨hc, hfz⟩ := ho.at_ (by rw [dmgTo_len]) j (by rw [dmgTo_len]; exact hlt)
      rw [dmgTo_at b f j hlt] at hc
      have HST := Lib.hid (dmgTo_step b f j hlt)
      have HCC : Hid ((dmgTo b f j)[j]'(by rw [dmgTo_len]; exact hlt) = b[j]) := Lib.hid (dmgTo_at b f j hlt)
      generalize b[j] = cc at *
      unfold bv at hc
      have hlt8 := heap_lt hB
      go_upto_if 19 with fail
      go_cut [6] (fun i wx => i = .int .i64 (j : Int) ∧ OwnV bv 5 (w.heap.size + 1) wx (.slice (some ⟨g, 0, none⟩) b.length cv) ((dmgTo b f j).set j (dmgA f j cc)) ∧ wx.heap[w.heap.size]? = some (.cells #[yd, .int .i64 f.at_, .int .i64 f.mask] 44 (0, 0)) ∧ Ext w wx)
      case first =>
        by_cases h1 : (j : Int) = f.at_
        · have h1' : ((j : Int) == f.at_) = true := by simpa using h1
          have HJA := Lib.hid h1
          clear h1
          go_upto_region 6 with fail
          refine wp_region_still_tail 12 (by kernel_rfl) (by kernel_rfl) ?_
          simp only [List.take_succ_cons, List.take_zero, List.drop_succ_cons, List.drop_zero]
          have HD : Hid (dmgA f j cc = cc ^^^ hiM f) := Lib.hid (by have := HJA.out; rw [dmgA, if_pos this])
          have hx1 := u8_xorB cc (hiM f)
          rw [← HD.out] at hx1
          generalize dmgA f j cc = xx at *
          iterate 12 still_step
          refine wpStill_nil ?_
          change wpList _ _ _ _ _ wo.drew
          have hbd : wo.drew.heap[w.heap.size]? = some (.cells #[yd, .int .i64 f.at_, .int .i64 f.mask] 44 (0, 0)) := hB
          have hod := ho.ext ((Ext.refl wo).drew)
          have hEd := hE.trans ((Ext.refl wo).drew)
          have hfd : wo.drew.frozen? ⟨g, j, none⟩ = false := hfz
          have hcd : wo.drew.cell? ⟨g, j, none⟩ = some (.int .u8 (cc.toNat : Int)) := hc
          clear q0 q1 q2 hc hfz hB ho hE
          generalize wo.drew = wd at *
          have hgl := (hod.lt g rfl)
          go_wp2_with fail
          go_meet
          obtain ⟨hp1, hp2⟩ := hod.put (by rw [dmgTo_len]) j xx
          exact ⟨rfl, hp1, blk_grown hbd hp2 (by simp; omega), hEd.grown hp2 (fun k e => by cases e; omega)⟩
        · have h1' : ((j : Int) == f.at_) = false := by simpa using h1
          have HD : Hid (dmgA f j cc = cc) := Lib.hid (by rw [dmgA, if_neg h1])
          clear h1
          go_wp2_with fail
          go_meet
          refine ⟨rfl, ?_, hB, hE⟩
          rw [HD.out, ← HCC.out, List.set_getElem_self]
          exact ho
      case rest =>
        clear q0 q1 q2 hc hfz hlt8 ho hB hE
        obtain ⟨rfl, ho, hB, hE⟩ := hcut
        obtain ⟨q0, q1, q2⟩ := blk3 hB
        have hwr : IntKind.i64.wrap ((j : Int) - 1) = (j : Int) - 1 := by rw [IntKind.wrap_i64]; omega
        go_upto_region 7 with fail
        go_cut [6, 49] (fun i s wx => i = .int .i64 (j : Int) ∧ s = .bool (decide (dmgC f j)) ∧ wc = wx)
        case first =>
          by_cases h0 : j = 0
          · have a1 : decide ((0 : Int) < (j : Int)) = false := by simp; omega
            have b1 : decide (0 < j) = false := by simp; omega
            have b2 : (j == 0) = true := by simp; omega
            have a2 : ((j : Int) == 0) = true := by simp; omega
            by_cases h1 : f.at_ = -1
            · have a3 : (f.at_ == -1) = true := by simpa using h1
              have HD : Hid (decide (dmgC f j) = true) := Lib.hid (by simp [dmgC, h0, h1])
              clear h0 h1
              go_wp2_with fail
              go_meet
              exact ⟨rfl, by rw [HD.out], rfl⟩
            · have a3 : (f.at_ == -1) = false := by simpa using h1
              have HD : Hid (decide (dmgC f j) = false) := Lib.hid (by simp [dmgC, h0, h1])
              clear h0 h1
              go_wp2_with fail
              go_meet
              exact ⟨rfl, by rw [HD.out], rfl⟩
          · have a1 : decide ((0 : Int) < (j : Int)) = true := by simp; omega
            have b1 : decide (0 < j) = true := by simp; omega
            have b2 : (j == 0) = false := by simp; omega
            have a2 : ((j : Int) == 0) = false := by simp; omega
            by_cases h1 : (j : Int) - 1 = f.at_
            · have a3 : ((j : Int) - 1 == f.at_) = true := by simpa using h1
              have HD : Hid (decide (dmgC f j) = true) := Lib.hid (by simp only [decide_eq_true_eq]; exact .inl ⟨by omega, h1⟩)
              clear h0 h1
              go_wp2_with fail
              go_meet
              exact ⟨rfl, by rw [HD.out], rfl⟩
            · have a3 : ((j : Int) - 1 == f.at_) = false := by simpa using h1
              have HD : Hid (decide (dmgC f j) = false) := Lib.hid (by
                simp only [decide_eq_false_iff_not]
                rintro (⟨_, h⟩ | ⟨h, _⟩)
                · exact h1 h
                · exact h0 h)
              clear h0 h1
              go_wp2_with fail
              go_meet
              exact ⟨rfl, by rw [HD.out], rfl⟩
        case rest =>
          obtain ⟨rfl, rfl, rfl⟩ := hcut
          go_upto_if 49 with fail
          have hsl : ((dmgTo b f j).set j (dmgA f j cc)).length = b.length := by rw [List.length_set, dmgTo_len]
          have hgl := ho.lt g rfl
          by_cases hc : dmgC f j
          · rw [decide_eq_true hc]
            obtain ⟨hcc, hfz⟩ := ho.at_ hsl.symm j (by rw [hsl]; exact hlt)
            rw [List.getElem_set_self] at hcc
            unfold bv at hcc
            have HD : Hid (dmgB f j cc = dmgA f j cc ^^^ loM f) := Lib.hid (by rw [dmgB, if_pos hc])
            have hx1 := u8_xorB (dmgA f j cc) (loM f)
            rw [← HD.out] at hx1
            clear hc
            have HSL := Lib.hid hsl
            clear hsl
            generalize dmgB f j cc = yy at *
            generalize dmgA f j cc = xx at *
            go_upto_region 8 with fail
            refine wp_region_still_tail 11 (by kernel_rfl) (by kernel_rfl) ?_
            simp only [List.take_succ_cons, List.take_zero, List.drop_succ_cons, List.drop_zero]
            iterate 11 still_step
            refine wpStill_nil ?_
            change wpList _ _ _ _ _ wc.drew
            have hbd : wc.drew.heap[w.heap.size]? = some (.cells #[yd, .int .i64 f.at_, .int .i64 f.mask] 44 (0, 0)) := hB
            have hod := ho.ext ((Ext.refl wc).drew)
            have hEd := hE.trans ((Ext.refl wc).drew)
            have hfd : wc.drew.frozen? ⟨g, j, none⟩ = false := hfz
            have hcd : wc.drew.cell? ⟨g, j, none⟩ = some (.int .u8 (xx.toNat : Int)) := hcc
            clear q0 q1 q2 hcc hfz hB ho hE hgl
            generalize wc.drew = wd at *
            have hgl := (hod.lt g rfl)
            go_wp2_with fail
            obtain ⟨hp1, hp2⟩ := hod.put HSL.out.symm j yy
            rw [List.set_set, ← HST.out] at hp1
            go_roundw
            case rel => exact ⟨j + 1, by omega, by go_num, hp1, blk_grown hbd hp2 (by simp; omega), hEd.grown hp2 (fun k e => by cases e; omega)⟩
            case measure => simp [intOf]; omega
          · rw [decide_eq_false hc]
            have HD : Hid (dmgB f j cc = dmgA f j cc) := Lib.hid (by rw [dmgB, if_neg hc])
            clear hc
            go_wp2_with fail
            rw [← HD.out, ← HST.out] at ho
            go_roundw
            case rel => exact ⟨j + 1, by omega, by go_num, ho, hB, hE⟩
            case measure => simp [intOf]; omega
    · have hij : ¬ (j : Int) < (b.length : Int) := by omega
      go_wp2_with fail
      go_ret
      refine ⟨_, rfl, ?_, hE⟩
      rw [← dmgTo_all b f j (by omega)]
      exact ho.low (by omega)
end Go.Proofs.Ytnobepobalpccaa
