/- The reader of locs.Decode: its numbers. -/
import Derived.Test.YtokmbdeafjmcjaaLcG
import Derived.Test.YtokmbdeafjmcjaaCfD
namespace Go.Proofs.Ytokmbdeafjmcjaa
open Go.RowKit
set_option linter.unusedVariables false
set_option linter.unusedSimpArgs false

/-! the reader -/
def RdPostL (gr : Nat) (x : Value) (b : List UInt8) (p : Int) (w : World) (en : Ending) (w' : World) : Prop :=
  en = .returned (.tuple #[.int .i64 (uintR b p).1, .int .i64 (uintR b p).2.2]) ∧ w'.heap[gr]? = some (.cells #[x, .int .i64 (if (uintR b p).2.2 = 0 then (uintR b p).2.1 else p)] 147 (0, 0)) ∧ w.grownBy w' (some gr)
set_option maxHeartbeats 4000000 in
set_option maxRecDepth 100000 in
theorem lcU_any (gr : Nat) (x : Value) (b : List UInt8) (p : Int) (w : World) (hx : InB w x b) (hb : w.heap[gr]? = some (.cells #[x, .int .i64 p] 147 (0, 0))) (hl : b.length ≤ 1000000) :
    Calls Try.prog 105 #[.pointer (some ⟨gr, 0, none⟩)] w (RdPostL gr x b p w) := by
  obtain ⟨A, c, rfl, _, _⟩ := id hx
  obtain ⟨n0, hn0⟩ : ∃ n0, n0 = b.length := ⟨_, rfl⟩
  rw [← hn0] at hb ⊢
  have c0 := blk_at hb 0 _ rfl
  have c1 := blk_at hb 1 _ rfl
  have HN0 := Lib.hid hn0
  clear hn0
  obtain ⟨v, next, er, hr⟩ : ∃ v next er, uintR b p = (v, next, er) := ⟨_, _, _, rfl⟩
  unfold RdPostL
  rw [hr]
  have HR := Lib.hid hr
  clear hr
  go_enter Try.func105, Try.ntmps105
  go_upto_region 1 with fail
  refine wp_region_X #[true, true, true, true, true, true, true, true, true, true, true, true, true, false, false, false] 13 3 (by kernel_rfl) rfl ?_
  refine wpX_vt 0 (.pointer (some ⟨gr, 0, none⟩)) rfl rfl (by kernel_rfl) (by kernel_rfl) (by kernel_rfl) (fun _ _ _ _ h => h) (by kernel_rfl) rfl (by rfl) (fun W' hW => by
    skip
    go_simp) ?_
  simp only [List.setIfInBounds_toArray, List.set_cons_zero, List.set_cons_succ]
  refine wpX_vt 1 (.pointer (some ⟨gr, 0, none⟩)) rfl rfl (by kernel_rfl) (by kernel_rfl) (by kernel_rfl) (fun _ _ _ _ h => h) (by kernel_rfl) rfl (by rfl) (fun W' hW => by
    skip
    go_simp) ?_
  simp only [List.setIfInBounds_toArray, List.set_cons_zero, List.set_cons_succ]
  refine wpX_vt 2 (.pointer (some ⟨gr, 0, none⟩)) rfl rfl (by kernel_rfl) (by kernel_rfl) (by kernel_rfl) (fun _ _ _ _ h => h) (by kernel_rfl) rfl (by rfl) (fun W' hW => by
    skip
    go_simp) ?_
  simp only [List.setIfInBounds_toArray, List.set_cons_zero, List.set_cons_succ]
  refine wpX_vt 3 (.slice A n0 c) rfl rfl (by kernel_rfl) (by kernel_rfl) (by kernel_rfl) (fun _ _ _ _ h => h) (by kernel_rfl) rfl (by rfl) (fun W' hW => by
    have z := (((Ext.refl w).drew).trans hW).cell c0
    go_simp) ?_
  simp only [List.setIfInBounds_toArray, List.set_cons_zero, List.set_cons_succ]
  refine wpX_vt 4 (.pointer (some ⟨gr, 0, none⟩)) rfl rfl (by kernel_rfl) (by kernel_rfl) (by kernel_rfl) (fun _ _ _ _ h => h) (by kernel_rfl) rfl (by rfl) (fun W' hW => by
    skip
    go_simp) ?_
  simp only [List.setIfInBounds_toArray, List.set_cons_zero, List.set_cons_succ]
  refine wpX_vt 5 (.pointer (some ⟨gr, 0, none⟩)) rfl rfl (by kernel_rfl) (by kernel_rfl) (by kernel_rfl) (fun _ _ _ _ h => h) (by kernel_rfl) rfl (by rfl) (fun W' hW => by
    skip
    go_simp) ?_
  simp only [List.setIfInBounds_toArray, List.set_cons_zero, List.set_cons_succ]
  refine wpX_vt 6 (.pointer (some ⟨gr, 1, none⟩)) rfl rfl (by kernel_rfl) (by kernel_rfl) (by kernel_rfl) (fun _ _ _ _ h => h) (by kernel_rfl) rfl (by rfl) (fun W' hW => by
    skip
    go_simp) ?_
  simp only [List.setIfInBounds_toArray, List.set_cons_zero, List.set_cons_succ]
  refine wpX_vt 7 (.int .i64 p) rfl rfl (by kernel_rfl) (by kernel_rfl) (by kernel_rfl) (fun _ _ _ _ h => h) (by kernel_rfl) rfl (by rfl) (fun W' hW => by
    have z := (((Ext.refl w).drew).trans hW).cell c1
    go_simp) ?_
  simp only [List.setIfInBounds_toArray, List.set_cons_zero, List.set_cons_succ]
  refine wpX_c 8 86 #[.slice A n0 c, .int .i64 p] rfl rfl (by kernel_rfl) rfl rfl (fun W => by go_simp) ?_
  intro W1 hW1
  have hX1 := ((Ext.refl w).drew).trans hW1
  have hx1 : InB W1 (.slice A n0 c) b := by rw [HN0.out]; exact hx.ext hX1
  refine (Uint_any _ b p W1 hx1 (by omega)).mono ?_
  rw [HR.out]
  rintro en w5 ⟨rfl, he5⟩
  refine ⟨_, rfl, he5, ?_⟩
  simp only [List.setIfInBounds_toArray, List.set_cons_zero, List.set_cons_succ]
  refine wpX_vt 9 (.tuple #[.int .i64 v, .int .i64 next, .int .i64 er]) rfl rfl (by kernel_rfl) (by kernel_rfl) (by kernel_rfl) (fun _ _ _ _ h => h) (by kernel_rfl) rfl (by rfl) (fun W' hW => by
    skip
    go_simp) ?_
  simp only [List.setIfInBounds_toArray, List.set_cons_zero, List.set_cons_succ]
  refine wpX_vt 10 (.int .i64 v) rfl rfl (by kernel_rfl) (by kernel_rfl) (by kernel_rfl) (fun _ _ _ _ h => h) (by kernel_rfl) rfl (by rfl) (fun W' hW => by
    skip
    go_simp) ?_
  simp only [List.setIfInBounds_toArray, List.set_cons_zero, List.set_cons_succ]
  refine wpX_l 11 (.int .i64 next) rfl rfl (by kernel_rfl) (by kernel_rfl) (by kernel_rfl) (fun _ _ _ _ h => h) (LateOK_any rfl (by kernel_rfl) (fun _ _ _ h => h)) rfl (by rfl) (fun W' => by go_simp) ?_
  simp only [List.setIfInBounds_toArray, List.set_cons_zero, List.set_cons_succ]
  refine wpX_l 12 (.int .i64 er) rfl rfl (by kernel_rfl) (by kernel_rfl) (by kernel_rfl) (fun _ _ _ _ h => h) (LateOK_any rfl (by kernel_rfl) (fun _ _ _ h => h)) rfl (by rfl) (fun W' => by go_simp) ?_
  simp only [List.setIfInBounds_toArray, List.set_cons_zero, List.set_cons_succ]
  refine wpX_end rfl fun W7 hW7 => tail_seq 13 rfl (by kernel_rfl) ?_
  simp only [List.drop_succ_cons, List.drop_zero]
  have hX7 := (hX1.trans he5).trans hW7
  have hb7 := hX7.heap hb
  have f1 := blk_free hb7 1
  have q1 := blk_at hb7 1 _ rfl
  have hlt := heap_lt hb7
  clear hW1 hX1 hW7 he5 c0 c1 hx1 hb
  go_wp2_with fail
  refine NoPanic.normal ?_
  by_cases h0 : er = 0
  · have e0 : (er == 0) = true := by simpa using h0
    have H0 := Lib.hid h0
    clear h0
    go_wp2_with fail
    refine bodyPost_ret (by simp [results, Try.results105, go_sem]; rfl) rfl ?_
    refine ⟨rfl, ?_, gtrans (Ext.grown0 hX7) (gset _ _ _)⟩
    exact blk_set hb7 1 (.int .i64 next)
  · have e0 : (er == 0) = false := by simpa using h0
    have H0 := Lib.hid h0
    clear h0
    go_wp2_with fail
    refine bodyPost_ret (by simp [results, Try.results105, go_sem]; rfl) rfl ?_
    refine ⟨rfl, ?_, Ext.grown0 hX7⟩
    exact hb7
def CntPostL (gr : Nat) (x : Value) (r : Except Int (Int × Int)) (w : World) (en : Ending) (w' : World) : Prop :=
  match r with
  | .error e => (∃ v, en = .returned (.tuple #[.int .i64 v, .int .i64 e])) ∧ e ≠ 0 ∧ w.grownBy w' (some gr)
  | .ok (v, q) => en = .returned (.tuple #[.int .i64 v, .int .i64 0]) ∧ w'.heap[gr]? = some (.cells #[x, .int .i64 q] 147 (0, 0)) ∧ w.grownBy w' (some gr)
set_option maxHeartbeats 4000000 in
set_option maxRecDepth 100000 in
theorem lcCount_any (gr : Nat) (x : Value) (b : List UInt8) (p m : Int) (w : World) (hx : InB w x b) (hb : w.heap[gr]? = some (.cells #[x, .int .i64 p] 147 (0, 0))) (hl : b.length ≤ 1000000) :
    Calls Try.prog 89 #[.pointer (some ⟨gr, 0, none⟩), .int .i64 m] w (CntPostL gr x (cntR m b p) w) := by
  have HXX := Lib.hid hx
  have HBB := Lib.hid hb
  clear hx hb
  go_enter Try.func89, Try.ntmps89
  go_wp2_with fail
  refine (lcU_any gr x b p w HXX.out HBB.out hl).mono ?_
  rintro en w2 ⟨rfl, hb2, hg2⟩
  obtain ⟨v, next, er, hr⟩ : ∃ v next er, uintR b p = (v, next, er) := ⟨_, _, _, rfl⟩
  rw [hr] at hb2 ⊢
  dsimp only at hb2 ⊢
  by_cases h0 : er = 0
  case neg =>
    have e0 : (er == 0) = false := by simpa using h0
    have HP : Hid (CntPostL gr x (cntR m b p) w (.returned (.tuple #[.int .i64 v, .int .i64 er])) w2) := Lib.hid (by
      unfold cntR
      rw [hr, if_pos (by simpa using h0)]
      exact ⟨⟨v, rfl⟩, h0, hg2⟩)
    clear h0 hr hb2
    go_wp2_with fail
    refine bodyPost_ret (by simp [results, Try.results89, go_sem]; rfl) rfl ?_
    exact HP.out
  have e0 : (er == 0) = true := by simpa using h0
  rw [if_pos h0] at hb2
  subst h0
  clear e0
  have e0 : ((0 : Int) == 0) = true := rfl
  by_cases h1 : m < v
  · have d1 : decide (m < v) = true := by simpa using h1
    have HP : Hid (CntPostL gr x (cntR m b p) w (.returned (.tuple #[.int .i64 0, .int .i64 5])) w2) := Lib.hid (by
      unfold cntR
      rw [hr, if_neg (by simp), if_pos h1]
      exact ⟨⟨0, rfl⟩, by omega, hg2⟩)
    clear h1 hr hb2
    go_wp2_with fail
    refine bodyPost_ret (by simp [results, Try.results89, go_sem]; rfl) rfl ?_
    exact HP.out
  · have d1 : decide (m < v) = false := by simpa using h1
    have HP : Hid (CntPostL gr x (cntR m b p) w (.returned (.tuple #[.int .i64 v, .int .i64 0])) w2) := Lib.hid (by
      unfold cntR
      rw [hr, if_neg (by simp), if_neg h1]
      exact ⟨rfl, hb2, hg2⟩)
    clear h1 hr hb2
    go_wp2_with fail
    refine bodyPost_ret (by simp [results, Try.results89, go_sem]; rfl) rfl ?_
    exact HP.out
/-! numbers that are written through pointers -/
def ptrsL (g : Nat) (os : List Nat) : List Value := os.map fun i => .pointer (some ⟨g, i, none⟩)
/-- cells written one after another -/
def putN (C : List Value) : List Nat → List Int → List Value
  | o :: os, v :: vs => putN (C.set o (.int .i64 v)) os vs
  | _, _ => C
theorem putN_len : ∀ (os : List Nat) (vs : List Int) (C : List Value), (putN C os vs).length = C.length
  | o :: os, v :: vs, C => by rw [putN, putN_len]; simp
  | [], _, C => by cases ‹List Int› <;> rfl
  | _ :: _, [], C => rfl
theorem putN_snoc : ∀ (vs : List Int) (os : List Nat) (C : List Value) (h : vs.length < os.length) (v : Int), putN C os (vs ++ [v]) = (putN C os vs).set os[vs.length] (.int .i64 v)
  | [], o :: os, C, _, v => by cases os <;> rfl
  | x :: vs, o :: os, C, h, v => by
    have h' : vs.length < os.length := by simpa using h
    simp only [List.cons_append, putN, List.length_cons, List.getElem_cons_succ]
    exact putN_snoc vs os (C.set o (.int .i64 x)) h' v
  | [], [], C, h, v => absurd h (by simp)
  | x :: vs, [], C, h, v => absurd h (by simp)
theorem putN_nil (C : List Value) (os : List Nat) : putN C os [] = C := by cases os <;> rfl
def NumsPostL (gr g : Nat) (x : Value) (T : TypeId) (C : List Value) (os : List Nat) (r : Except Int (List Int × Int)) (w : World) (en : Ending) (w' : World) : Prop :=
  match r with
  | .error e => en = .returned (.int .i64 e) ∧ e ≠ 0 ∧ (∃ vs : List Int, vs.length ≤ os.length ∧ w'.heap[g]? = some (.cells (putN C os vs).toArray T (0, 0))) ∧ Kept w.heap.size [gr, g] w w'
  | .ok (vs, q) => en = .returned (.int .i64 0) ∧ w'.heap[g]? = some (.cells (putN C os vs).toArray T (0, 0)) ∧ w'.heap[gr]? = some (.cells #[x, .int .i64 q] 147 (0, 0)) ∧ Kept w.heap.size [gr, g] w w'
set_option maxHeartbeats 4000000 in
set_option maxRecDepth 100000 in
theorem lcNumbers_any (gr g gy n : Nat) (os : List Nat) (hos : n = os.length) (x : Value) (b : List UInt8) (p : Int) (T : TypeId) (C : List Value) (w : World) (hx : St [gr, g] w (fun W => InB W x b)) (hb : w.heap[gr]? = some (.cells #[x, .int .i64 p] 147 (0, 0)))
    (hg : w.heap[g]? = some (.cells C.toArray T (0, 0))) (hT : T ≠ 147) (hT2 : T ≠ 165) (hn : ∀ o ∈ os, o < C.length) (hn4 : n ≤ 5) (hy : w.heap[gy]? = some (.cells (ptrsL g os).toArray 165 (0, 0))) (hl : b.length ≤ 1000000) :
    Calls Try.prog 106 #[.pointer (some ⟨gr, 0, none⟩), .slice (some ⟨gy, 0, none⟩) n n] w (NumsPostL gr g x T C os (numsR b n p) w) := by
  have HXX := Lib.hid hx
  have ngr := blk_ne hg hb hT
  have nyr := blk_ne hy hb (by decide)
  have nyg := blk_ne hy hg (fun e => hT2 e.symm)
  have hgl := heap_lt hg
  have hrl := heap_lt hb
  have HLN := Lib.hid hn
  have HOS := Lib.hid hos
  clear hx hn hos
  go_enter Try.func106, Try.ntmps106
  go_wp2_with fail
  go_loopw [11] (fun i wr => ∃ (k : Nat) (vs : List Int) (q : Int), k ≤ n ∧ i = .int .i64 (k : Int) ∧ Hid (vs.length = k) ∧ Hid (numsR b n p = preR vs (numsR b (n - k) q)) ∧ wr.heap[g]? = some (.cells (putN C os vs).toArray T (0, 0)) ∧ wr.heap[gr]? = some (.cells #[x, .int .i64 q] 147 (0, 0)) ∧ wr.heap[gy]? = some (.cells (ptrsL g os).toArray 165 (0, 0)) ∧ Kept w.heap.size [gr, g] w wr) (fun i _ => n - (intOf i).toNat)
  case atStart => exact ⟨0, [], p, by omega, rfl, Lib.hid rfl, Lib.hid (by rw [preR_nil, Nat.sub_zero]), by rw [putN_nil]; exact hg, hb, hy, Kept.refl _ _ _⟩
  case round =>
    clear hg hb hy
    obtain ⟨k, vs, q, hk, rfl, HK, HN, hg, hb, hy, hK⟩ := hrel
    obtain ⟨wo, rfl⟩ : ∃ W : World, W = wr := ⟨_, rfl⟩
    by_cases hlt : k < n
    · have hik : (k : Int) < (n : Int) := by omega
      have hko : k < os.length := by rw [← HOS.out]; exact hlt
      have hoc := HLN.out _ (List.getElem_mem hko)
      obtain ⟨o, ho⟩ : ∃ o, o = os[k] := ⟨_, rfl⟩
      have hcell : wo.cell? ⟨gy, k, none⟩ = some (.pointer (some ⟨g, o, none⟩)) := blk_at hy k _ (by
        rw [List.getElem?_toArray, ptrsL, List.getElem?_map, List.getElem?_eq_getElem hko, ho]; rfl)
      rw [← ho] at hoc
      have HO := Lib.hid ho
      clear ho
      have HSN : Hid (n - k = (n - (k + 1)) + 1) := Lib.hid (by omega)
      go_wp2_with fail
      refine (lcU_any gr x b q wo (HXX.out wo hK) hb hl).mono ?_
      rintro en w2 ⟨rfl, hb2, hg2⟩
      obtain ⟨v, next, er, hr⟩ : ∃ v next er, uintR b q = (v, next, er) := ⟨_, _, _, rfl⟩
      rw [hr] at hb2 ⊢
      dsimp only at hb2 ⊢
      have hgg := blk_grown hg hg2 (fun e => ngr (by cases e; rfl))
      have hyy := blk_grown hy hg2 (fun e => nyr (by cases e; rfl))
      have hK2 := hK.trans (Kept.of_grown hg2 hK.size (fun k e => by cases e; exact .inr (by simp)))
      clear hcell hb hg hy hg2 hK
      by_cases h0 : er = 0
      case neg =>
        have e0 : (er != 0) = true := by simpa using h0
        have HP : Hid (NumsPostL gr g x T C os (numsR b n p) w (.returned (.int .i64 er)) w2) := Lib.hid (by
          rw [HN.out, HSN.out]
          have : numsR b (n - (k + 1) + 1) q = .error er := by
            unfold numsR numR
            rw [hr, if_pos (by simpa using h0)]
          rw [this]
          exact ⟨rfl, h0, ⟨vs, by have := HK.out; have := HOS.out; omega, hgg⟩, hK2⟩)
        clear h0 hr hb2
        go_wp2_with fail
        go_ret
        exact HP.out
      rw [if_pos h0] at hb2
      subst h0
      have e0 : ((0 : Int) != 0) = false := rfl
      by_cases h1 : 1099511627776 < v
      · have d1 : decide (1099511627776 < v) = true := by simpa using h1
        have HP : Hid (NumsPostL gr g x T C os (numsR b n p) w (.returned (.int .i64 2)) w2) := Lib.hid (by
          rw [HN.out, HSN.out]
          have : numsR b (n - (k + 1) + 1) q = .error 2 := by
            unfold numsR numR
            rw [hr, if_neg (by simp), if_pos h1]
          rw [this]
          exact ⟨rfl, by omega, ⟨vs, by have := HK.out; have := HOS.out; omega, hgg⟩, hK2⟩)
        clear h1 hr hb2
        go_wp2_with fail
        go_ret
        exact HP.out
      · have d1 : decide (1099511627776 < v) = false := by simpa using h1
        have HN2 : Hid (numsR b n p = preR (vs ++ [v]) (numsR b (n - (k + 1)) next)) := Lib.hid (by
          rw [HN.out, HSN.out]
          have : numsR b (n - (k + 1) + 1) q = preR [v] (numsR b (n - (k + 1)) next) := by
            conv => lhs; unfold numsR numR
            rw [hr, if_neg (by simp), if_neg h1]
          rw [this, preR_preR])
        have hvk : vs.length < os.length := by rw [HK.out]; exact hko
        obtain ⟨cv, hcv⟩ : ∃ cv, (putN C os vs)[o]? = some cv := ⟨_, List.getElem?_eq_getElem (by rw [putN_len]; exact hoc)⟩
        have q1 : w2.cell? ⟨g, o, none⟩ = some cv := blk_at hgg o _ (by rw [List.getElem?_toArray]; exact hcv)
        have f1 := blk_free hgg o
        have hlt1 := heap_lt hgg
        have s1 := gset w2 ⟨g, o, none⟩ (.int .i64 v)
        have hg3 : (w2.setCell ⟨g, o, none⟩ (.int .i64 v)).heap[g]? = some (.cells (putN C os (vs ++ [v])).toArray T (0, 0)) := by
          have h := blk_set hgg o (.int .i64 v)
          have e : os[vs.length] = o := by rw [HO.out]; simp only [HK.out]
          rw [putN_snoc vs os C hvk v, e, h]
          simp
        have hb3 := blk_grown hb2 s1 (fun e => ngr (by cases e; rfl))
        have hy3 := blk_grown hyy s1 (fun e => nyg (by cases e; rfl))
        have hK3 := hK2.trans (Kept.of_grown s1 hK2.size (fun k e => by cases e; exact .inr (by simp)))
        have HK3 : Hid ((vs ++ [v]).length = k + 1) := Lib.hid (by rw [List.length_append, HK.out]; rfl)
        clear h1 hr hb2 hgg hyy s1 hK2 hvk hcv HO hko hoc
        go_wp2_with fail
        go_roundw
        case rel => exact ⟨k + 1, vs ++ [v], next, by omega, by first | (with_reducible rfl) | go_num, HK3, HN2, hg3, hb3, hy3, hK3⟩
        case measure => simp [intOf]; omega
    · have hik : ¬ (k : Int) < (n : Int) := by omega
      have HP : Hid (NumsPostL gr g x T C os (numsR b n p) w (.returned (.int .i64 0)) wo) := Lib.hid (by
        have e : n - k = 0 := by omega
        rw [HN.out, e]
        have : preR vs (numsR b 0 q) = .ok (vs, q) := by simp [numsR, preR]
        rw [this]
        exact ⟨rfl, hg, hb, hK⟩)
      go_wp2_with fail
      go_ret
      exact HP.out
end Go.Proofs.Ytokmbdeafjmcjaa
/- The walk that reads a place. -/
namespace Go.Proofs.Ytokmbdeafjmcjaa
open Go.RowKit
set_option linter.unusedVariables false
set_option linter.unusedSimpArgs false

def byteAt (b : List UInt8) (p : Int) : Int := ((b.getD p.toNat 0).toNat : Int)
def kdOf (k : Int) : Int := if 8 ≤ k then k - 8 else k
def nR (b : List UInt8) (kd p : Int) : Except Int (Int × Int) := if kd = 1 then .ok (0, p) else numR b p
def plcR (b : List UInt8) (p : Int) : Except Int (Plc × Int) :=
  if ¬ p < b.length then .error 3
  else if kdOf (byteAt b p) < 1 ∨ 4 < kdOf (byteAt b p) then .error 4
  else match nR b (kdOf (byteAt b p)) (p + 1) with
    | .error e => .error e
    | .ok (n, q) =>
      if 8 ≤ byteAt b p then
        if (intR b q).2.2 ≠ 0 then .error (intR b q).2.2 else if (intR b q).1 = 0 then .error 4 else .ok (⟨kdOf (byteAt b p), n, (intR b q).1⟩, (intR b q).2.1)
      else .ok (⟨kdOf (byteAt b p), n, 0⟩, q)
def PlcPost (gr : Nat) (x : Value) (r : Except Int (Plc × Int)) (w : World) (en : Ending) (w' : World) : Prop :=
  match r with
  | .error e => (∃ a1 a2 a3 : Int, en = .returned (.tuple #[.agg #[.int .i64 a1, .int .i64 a2, .int .i64 a3], .int .i64 e])) ∧ e ≠ 0 ∧ Kept w.heap.size [gr] w w'
  | .ok (p, q) => en = .returned (.tuple #[.agg #[.int .i64 p.kind, .int .i64 p.n, .int .i64 p.add], .int .i64 0]) ∧ w'.heap[gr]? = some (.cells #[x, .int .i64 q] 147 (0, 0)) ∧ Kept w.heap.size [gr] w w'
/-- the boxes of the walk -/
structure PB (w : World) (gr g2 g6 : Nat) (x : Value) (q a1 a2 a3 : Int) (W : World) : Prop where
  res : W.heap[g2]? = some (.cells #[.int .i64 0, .int .i64 0, .int .i64 0] 75 (0, 0))
  plc : W.heap[g6]? = some (.cells #[.int .i64 a1, .int .i64 a2, .int .i64 a3] 75 (0, 0))
  rd : W.heap[gr]? = some (.cells #[x, .int .i64 q] 147 (0, 0))
  kept : Kept w.heap.size [gr] w W
  low : w.heap.size ≤ g2 ∧ w.heap.size ≤ g6 ∧ g2 ≠ g6 ∧ gr < w.heap.size
theorem PB.ext {w W W' : World} {gr g2 g6 : Nat} {x : Value} {q a1 a2 a3 : Int} (h : PB w gr g2 g6 x q a1 a2 a3 W) (he : Ext W W') : PB w gr g2 g6 x q a1 a2 a3 W' :=
  ⟨he.heap h.res, he.heap h.plc, he.heap h.rd, h.kept.trans (Kept.of_ext he h.kept.size), h.low⟩
/-- the numbers of the place and of the reader are written -/
theorem PB.nums {w W W' : World} {gr g2 g6 : Nat} {x : Value} {q a1 a2 a3 q' b1 b2 b3 : Int} (h : PB w gr g2 g6 x q a1 a2 a3 W) (hk : Kept W.heap.size [gr, g6] W W') (hg : W'.heap[g6]? = some (.cells #[.int .i64 b1, .int .i64 b2, .int .i64 b3] 75 (0, 0)))
    (hr : W'.heap[gr]? = some (.cells #[x, .int .i64 q'] 147 (0, 0))) : PB w gr g2 g6 x q' b1 b2 b3 W' := by
  have hlow := h.low
  exact ⟨hk.heap h.res (heap_lt h.res) (fun hm => by simp only [List.mem_cons, List.not_mem_nil, or_false] at hm; omega), hg, hr,
    ⟨hk.os.trans h.kept.os, hk.tape.trans h.kept.tape, hk.output.trans h.kept.output, Nat.le_trans h.kept.size hk.size, fun i hi hn => (hk.block i (Nat.lt_of_lt_of_le hi h.kept.size) (fun hm => by
      simp only [List.mem_cons, List.not_mem_nil, or_false] at hm
      rcases hm with e | e
      · exact hn (by simp [e])
      · omega)).trans (h.kept.block i hi hn)⟩, h.low⟩
theorem Kept.set6 {gr g6 : Nat} {W : World} (j : Nat) (u : Value) : Kept W.heap.size [gr, g6] W (W.setCell ⟨g6, j, none⟩ u) :=
  Kept.of_grown (gset W ⟨g6, j, none⟩ u) (Nat.le_refl _) (fun k e => by cases e; exact .inr (by simp))
theorem Kept.setr {gr g6 : Nat} {W : World} (j : Nat) (u : Value) : Kept W.heap.size [gr, g6] W (W.setCell ⟨gr, j, none⟩ u) :=
  Kept.of_grown (gset W ⟨gr, j, none⟩ u) (Nat.le_refl _) (fun k e => by cases e; exact .inr (by simp))
theorem PB.ne {w W : World} {gr g2 g6 : Nat} {x : Value} {q a1 a2 a3 : Int} (h : PB w gr g2 g6 x q a1 a2 a3 W) : gr ≠ g6 ∧ gr ≠ g2 := by have := h.low; omega
/-- the reader goes on -/
theorem PB.at_ {w W : World} {gr g2 g6 : Nat} {x : Value} {q a1 a2 a3 : Int} (h : PB w gr g2 g6 x q a1 a2 a3 W) (n : Int) : PB w gr g2 g6 x n a1 a2 a3 (W.setCell ⟨gr, 1, none⟩ (.int .i64 n)) :=
  h.nums (Kept.setr 1 _) (blk_grown h.plc (gset W ⟨gr, 1, none⟩ _) (fun e => h.ne.1 (by cases e; rfl))) (blk_set h.rd 1 _)
theorem PB.add {w W : World} {gr g2 g6 : Nat} {x : Value} {q a1 a2 a3 : Int} (h : PB w gr g2 g6 x q a1 a2 a3 W) (n : Int) : PB w gr g2 g6 x q a1 a2 n (W.setCell ⟨g6, 2, none⟩ (.int .i64 n)) :=
  h.nums (Kept.set6 2 _) (blk_set h.plc 2 _) (blk_grown h.rd (gset W ⟨g6, 2, none⟩ _) (fun e => h.ne.1 (by cases e; rfl)))
theorem numR_pos {b : List UInt8} {p v q : Int} (h : numR b p = .ok (v, q)) : 0 ≤ p ∧ p < q := by
  unfold numR at h
  split at h
  · cases h
  · rename_i h1
    have h1' : (uintR b p).2.2 = 0 := by simpa using h1
    split at h
    · cases h
    · injection h with h
      injection h with h3 h4
      have h6 := uintR_next h1'
      omega
theorem numsR_one (b : List UInt8) (p : Int) : numsR b 1 p = match numR b p with
    | .error e => .error e
    | .ok (v, q) => .ok ([v], q) := by
  unfold numsR
  rcases numR b p with e | ⟨v, q⟩
  · rfl
  · rfl
theorem shape1 {vs : List Int} (h : vs.length ≤ 1) (a : Int) : ∃ n : Int, (putN [.int .i64 a, .int .i64 0, .int .i64 0] [1] vs).toArray = #[.int .i64 a, .int .i64 n, .int .i64 0] := by
  match vs, h with
  | [], _ => exact ⟨0, rfl⟩
  | [v], _ => exact ⟨v, rfl⟩
set_option maxHeartbeats 40000000 in
set_option maxRecDepth 100000 in
theorem place_any (gr : Nat) (x : Value) (b : List UInt8) (p : Int) (w : World) (hx : St [gr] w (fun W => InB W x b)) (hb : w.heap[gr]? = some (.cells #[x, .int .i64 p] 147 (0, 0))) (hp : 0 ≤ p ∧ p ≤ 1000000) (hl : b.length ≤ 1000000) :
    Calls Try.prog 107 #[.pointer (some ⟨gr, 0, none⟩)] w (PlcPost gr x (plcR b p) w) := by
  obtain ⟨A, c, rfl, hcl, hrd⟩ := id (hx w (Kept.refl _ _ _))
  obtain ⟨n0, hn0⟩ : ∃ n0, n0 = b.length := ⟨_, rfl⟩
  have HX := Lib.hid hx
  rw [← hn0] at hb HX ⊢
  have HN0 := Lib.hid hn0
  have hgr := heap_lt hb
  have hn1 : n0 ≤ 1000000 := by omega
  clear hx hn0 hcl
  obtain ⟨pn, rfl⟩ : ∃ pn : Nat, p = (pn : Int) := ⟨p.toNat, by omega⟩
  go_enter Try.func107, Try.ntmps107
  go_upto_region 1 with fail
  have hA := (Ext.refl w).alloc (.cells #[.int .i64 0, .int .i64 0, .int .i64 0] 75)
  have hG2 := heap_alloc_new w (.cells #[.int .i64 0, .int .i64 0, .int .i64 0] 75)
  have hrd1 := hA.heap hb
  obtain ⟨g2, hg2⟩ : ∃ g, g = w.heap.size := ⟨_, rfl⟩
  have hlow : w.heap.size ≤ g2 ∧ gr ≠ g2 := by omega
  rw [← hg2] at hG2 ⊢
  have HG2 := Lib.hid hG2
  clear hg2 hb hG2
  generalize w.alloc (.cells #[.int .i64 0, .int .i64 0, .int .i64 0] 75) = w1 at *
  obtain ⟨q0, q1⟩ : w1.cell? ⟨gr, 0, none⟩ = some (.slice A n0 c) ∧ w1.cell? ⟨gr, 1, none⟩ = some (.int .i64 (pn : Int)) := ⟨blk_at hrd1 0 _ rfl, blk_at hrd1 1 _ rfl⟩
  go_quiet (fail)
  have hX2 := hA.trans ((Ext.refl w1).drewN nq)
  have hrd2 := ((Ext.refl w1).drewN nq).heap hrd1
  have HG3 := Lib.hid (((Ext.refl w1).drewN nq).heap HG2.out)
  clear q0 q1 hrd1 HG2 hA
  generalize w1.drewN nq = w2 at *
  by_cases hlt : pn < n0
  case neg =>
    have hle : n0 ≤ pn := by omega
    have HPF : Hid (plcR b (pn : Int) = .error 3) := Lib.hid (by unfold plcR; rw [if_pos (by have := HN0.out; omega)])
    have hstt := run_storeAt_blk (P := Try.prog) w2 g2 75 75 _ #[.int .i64 0, .int .i64 0, .int .i64 0] HG3.out pc_size rfl (by simp [Value.oneCell'])
    clear hlt
    go_wp2_with first | refine wpList_store_run rfl 75 (.tmp 2) (.tmp 21) rfl _ _ _ rfl rfl hstt ?_
    have hZ9 := setRow_heap w2 g2 _ #[.int .i64 0, .int .i64 0, .int .i64 0] _ _ HG3.out
    have hk9 : Kept w.heap.size [gr] w (w2.setRow g2 #[.int .i64 0, .int .i64 0, .int .i64 0]) := (Kept.of_ext hX2 (Nat.le_refl _)).trans (Kept.of_grown (gsetRow w2 g2 #[.int .i64 0, .int .i64 0, .int .i64 0]) hX2.size (fun k e => by cases e; exact .inl hlow.1))
    clear hstt
    generalize w2.setRow g2 #[.int .i64 0, .int .i64 0, .int .i64 0] = w9 at *
    obtain ⟨k0, k1, k2⟩ := blk3 hZ9
    refine bodyPost_ret (v := .tuple #[.agg #[.int .i64 0, .int .i64 0, .int .i64 0], .int .i64 3]) (by simp [results, Try.results107, go_sem, k0, k1, k2]) rfl ?_
    rw [HPF.out]
    exact ⟨⟨_, _, _, rfl⟩, by omega, hk9⟩
  have hle : ¬ n0 ≤ pn := by omega
  have hpb : pn < b.length := by rw [← HN0.out]; exact hlt
  obtain ⟨bb, oo, rfl, hcell⟩ := hrd.byte hpb
  have hcell2 := hX2.cell hcell
  obtain ⟨k, hk⟩ : ∃ k : Int, k = byteAt b (pn : Int) := ⟨_, rfl⟩
  have hbk : ((b[pn].toNat : Nat) : Int) = k := by
    rw [hk]
    unfold byteAt
    rw [Int.toNat_natCast, List.getD_eq_getElem?_getD, List.getElem?_eq_getElem hpb]
    rfl
  have hk255 : 0 ≤ k ∧ k ≤ 255 := by have := b[pn].toNat_lt; omega
  rw [hbk] at hcell2
  obtain ⟨kd, hkd⟩ : ∃ kd : Int, kd = kdOf k := ⟨_, rfl⟩
  have hkd2 : kd ≤ 255 ∧ -8 ≤ kd ∧ (8 ≤ k → kd = k - 8) ∧ (¬ 8 ≤ k → kd = k) := by
    rw [hkd]; unfold kdOf; split <;> omega
  have HPL : Hid (plcR b (pn : Int) = if kd < 1 ∨ 4 < kd then .error 4 else match nR b kd ((pn : Int) + 1) with
    | .error e => .error e
    | .ok (n, q) => if 8 ≤ k then (if (intR b q).2.2 ≠ 0 then .error (intR b q).2.2 else if (intR b q).1 = 0 then .error 4 else .ok (⟨kd, n, (intR b q).1⟩, (intR b q).2.1)) else .ok (⟨kd, n, 0⟩, q)) := Lib.hid (by
    unfold plcR
    rw [if_neg (by omega), ← hk, ← hkd])
  have hpi : (pn : Int) < (n0 : Int) := by omega
  have hw1 : IntKind.i64.wrap ((pn : Int) + 1) = ((pn : Int) + 1) := wrap_in19 (by omega)
  have HKD := Lib.hid hkd2
  clear hbk hk hkd hcell hrd hkd2 hpb
  obtain ⟨q0, q1⟩ : w2.cell? ⟨gr, 0, none⟩ = some (.slice (some ⟨bb, oo, none⟩) n0 c) ∧ w2.cell? ⟨gr, 1, none⟩ = some (.int .i64 (pn : Int)) := ⟨blk_at hrd2 0 _ rfl, blk_at hrd2 1 _ rfl⟩
  go_upto_region 3 with fail
  go_quiet (fail)
  have hX3 := hX2.trans ((Ext.refl w2).drewN nq)
  have hrd3 := ((Ext.refl w2).drewN nq).heap hrd2
  have HG4 := Lib.hid (((Ext.refl w2).drewN nq).heap HG3.out)
  clear q0 q1 hrd2 HG3 hX2 hcell2
  generalize w2.drewN nq = w3 at *
  obtain ⟨q1, f1, hlt3⟩ : w3.cell? ⟨gr, 1, none⟩ = some (.int .i64 (pn : Int)) ∧ w3.frozen? ⟨gr, 1, none⟩ = false ∧ gr < w3.heap.size := ⟨blk_at hrd3 1 _ rfl, blk_free hrd3 1, heap_lt hrd3⟩
  go_upto_region 5 with fail
  have hset := gset w3 ⟨gr, 1, none⟩ (.int .i64 ((pn : Int) + 1))
  have hrd4 : (w3.setCell ⟨gr, 1, none⟩ (.int .i64 ((pn : Int) + 1))).heap[gr]? = some (.cells #[.slice (some ⟨bb, oo, none⟩) n0 c, .int .i64 ((pn : Int) + 1)] 147 (0, 0)) := blk_set hrd3 1 (.int .i64 ((pn : Int) + 1))
  have HG5 := Lib.hid (blk_grown HG4.out hset (fun e => hlow.2 (by cases e; rfl)))
  have hK4 : Kept w.heap.size [gr] w (w3.setCell ⟨gr, 1, none⟩ (.int .i64 ((pn : Int) + 1))) := (Kept.of_ext hX3 (Nat.le_refl _)).trans (Kept.of_grown hset hX3.size (fun k e => by cases e; exact .inr (by simp)))
  clear hset q1 f1 hlt3 hrd3 HG4 hX3
  generalize w3.setCell ⟨gr, 1, none⟩ (.int .i64 ((pn : Int) + 1)) = w4 at *
  go_upto_if 42 with fail
  generalize hpl : decide (8 ≤ k) = pl
  have HPV := Lib.hid hpl
  clear hpl
  go_cut [4] (fun s wx => s = .int .i64 kd ∧ w4 = wx)
  case first =>
    cases pl with
    | true =>
      have h8 : 8 ≤ k := by simpa using HPV.out
      have e : IntKind.i64.wrap (k - 8) = kd := by rw [HKD.out.2.2.1 h8]; exact wrap_in19 (by omega)
      go_wp2_with fail
      go_meet
      exact ⟨rfl, rfl⟩
    | false =>
      have h8 : ¬ 8 ≤ k := by simpa using HPV.out
      have e : k = kd := (HKD.out.2.2.2 h8).symm
      have HE := Lib.hid e
      clear e
      go_wp2_with fail
      go_meet
      exact ⟨by rw [HE.out], rfl⟩
  obtain ⟨rfl, rfl⟩ := hcut
  obtain ⟨hst, hG6, hXG⟩ := box_new (P := Try.prog) w4 75 #[.int .i64 0, .int .i64 0, .int .i64 0] #[.int .i64 kd, .int .i64 0, .int .i64 0] pc_size rfl (by simp [Value.oneCell'])
  go_upto_region 9 with first | refine wpList_store_run rfl 75 (.tmp 6) (.tmp 46) rfl _ _ _ rfl rfl hst ?_
  obtain ⟨g6, hg6⟩ : ∃ g, g = w4.heap.size := ⟨_, rfl⟩
  have hlow6 : w.heap.size ≤ g6 ∧ g2 ≠ g6 := by
    have h1 := heap_lt HG5.out
    have h2 := hK4.size
    omega
  rw [← hg6] at hG6 hXG ⊢
  have hP : PB w gr g2 g6 (.slice (some ⟨bb, oo, none⟩) n0 c) ((pn : Int) + 1) kd 0 0 ((w4.alloc (.cells #[.int .i64 0, .int .i64 0, .int .i64 0] 75)).setRow g6 #[.int .i64 kd, .int .i64 0, .int .i64 0]) :=
    ⟨hXG.heap HG5.out, hG6, hXG.heap hrd4, hK4.trans (Kept.of_ext hXG hK4.size), ⟨hlow.1, hlow6.1, hlow6.2, hgr⟩⟩
  generalize (w4.alloc (.cells #[.int .i64 0, .int .i64 0, .int .i64 0] 75)).setRow g6 #[.int .i64 kd, .int .i64 0, .int .i64 0] = w5 at *
  dsimp only [Act.put]
  clear hst hG6 hXG hg6 hlow6 HG5 hrd4 hK4 hlow hle hlt
  by_cases hk1 : kd < 1
  case pos =>
    have HPF : Hid (plcR b (pn : Int) = .error 4) := Lib.hid (by rw [HPL.out, if_pos (.inl hk1)])
    have dk : decide (kd < 1) = true := by simpa using hk1
    clear hk1
    have hldt := run_loadAt_blk (P := Try.prog) w5 g6 75 75 _ (0, 0) _ hP.plc Try.underlying75 rfl pc_size
    have hstt := run_storeAt_blk (P := Try.prog) w5 g2 75 75 _ #[.int .i64 kd, .int .i64 0, .int .i64 0] hP.res pc_size rfl (by simp [Value.oneCell'])
    go_wp2_with first | refine wpList_load_run rfl 75 (.tmp 6) rfl _ _ rfl hldt ?_ | refine wpList_store_run rfl 75 (.tmp 2) (.tmp 53) rfl _ _ _ rfl rfl hstt ?_
    have hZ9 := setRow_heap w5 g2 _ #[.int .i64 kd, .int .i64 0, .int .i64 0] _ _ hP.res
    have hk9 := hP.kept.trans (Kept.of_grown (gsetRow w5 g2 #[.int .i64 kd, .int .i64 0, .int .i64 0]) hP.kept.size (fun k e => by cases e; exact .inl hP.low.1))
    have hr9 := blk_grown hP.rd (gsetRow w5 g2 #[.int .i64 kd, .int .i64 0, .int .i64 0]) (fun e => hP.ne.2 (by cases e; rfl))
    clear hldt hstt
    generalize w5.setRow g2 #[.int .i64 kd, .int .i64 0, .int .i64 0] = w9 at *
    obtain ⟨k0, k1, k2⟩ := blk3 hZ9
    refine bodyPost_ret (v := .tuple #[.agg #[.int .i64 kd, .int .i64 0, .int .i64 0], .int .i64 4]) (by simp [results, Try.results107, go_sem, k0, k1, k2]) rfl ?_
    rw [HPF.out]
    exact ⟨⟨_, _, _, rfl⟩, by omega, hk9⟩
  have dk : decide (kd < 1) = false := by simpa using hk1
  by_cases hk4 : 4 < kd
  case pos =>
    have HPF : Hid (plcR b (pn : Int) = .error 4) := Lib.hid (by rw [HPL.out, if_pos (.inr hk4)])
    have dk4 : decide (4 < kd) = true := by simpa using hk4
    clear hk1 hk4
    have hldt := run_loadAt_blk (P := Try.prog) w5 g6 75 75 _ (0, 0) _ hP.plc Try.underlying75 rfl pc_size
    have hstt := run_storeAt_blk (P := Try.prog) w5 g2 75 75 _ #[.int .i64 kd, .int .i64 0, .int .i64 0] hP.res pc_size rfl (by simp [Value.oneCell'])
    go_wp2_with first | refine wpList_load_run rfl 75 (.tmp 6) rfl _ _ rfl hldt ?_ | refine wpList_store_run rfl 75 (.tmp 2) (.tmp 53) rfl _ _ _ rfl rfl hstt ?_
    have hZ9 := setRow_heap w5 g2 _ #[.int .i64 kd, .int .i64 0, .int .i64 0] _ _ hP.res
    have hk9 := hP.kept.trans (Kept.of_grown (gsetRow w5 g2 #[.int .i64 kd, .int .i64 0, .int .i64 0]) hP.kept.size (fun k e => by cases e; exact .inl hP.low.1))
    have hr9 := blk_grown hP.rd (gsetRow w5 g2 #[.int .i64 kd, .int .i64 0, .int .i64 0]) (fun e => hP.ne.2 (by cases e; rfl))
    clear hldt hstt
    generalize w5.setRow g2 #[.int .i64 kd, .int .i64 0, .int .i64 0] = w9 at *
    obtain ⟨k0, k1, k2⟩ := blk3 hZ9
    refine bodyPost_ret (v := .tuple #[.agg #[.int .i64 kd, .int .i64 0, .int .i64 0], .int .i64 4]) (by simp [results, Try.results107, go_sem, k0, k1, k2]) rfl ?_
    rw [HPF.out]
    exact ⟨⟨_, _, _, rfl⟩, by omega, hk9⟩
  have dk4 : decide (4 < kd) = false := by simpa using hk4
  have HPM : Hid (plcR b (pn : Int) = match nR b kd ((pn : Int) + 1) with
    | .error e => .error e
    | .ok (n, q) => if 8 ≤ k then (if (intR b q).2.2 ≠ 0 then .error (intR b q).2.2 else if (intR b q).1 = 0 then .error 4 else .ok (⟨kd, n, (intR b q).1⟩, (intR b q).2.1)) else .ok (⟨kd, n, 0⟩, q)) := Lib.hid (by
    rw [HPL.out, if_neg (by omega)])
  clear HPL hk1 hk4
  go_upto_if 55 with fail
  clear dk dk4
  have hnb : b.length ≤ 1000000 := hl
  go_cut [7] (fun _ wx => ∃ n q : Int, Hid (nR b kd ((pn : Int) + 1) = .ok (n, q)) ∧ (0 ≤ q ∧ q ≤ 1000001) ∧ PB w gr g2 g6 (.slice (some ⟨bb, oo, none⟩) n0 c) q kd n 0 wx)
  case first =>
    by_cases h1 : kd = 1
    · have d : (kd != 1) = false := by simp [h1]
      have HN : Hid (nR b kd ((pn : Int) + 1) = .ok (0, (pn : Int) + 1)) := Lib.hid (by unfold nR; rw [if_pos h1])
      clear h1
      go_wp2_with fail
      go_meet
      exact ⟨0, _, HN, by omega, hP⟩
    · have d : (kd != 1) = true := by simp [h1]
      have HN : Hid (nR b kd ((pn : Int) + 1) = numR b ((pn : Int) + 1)) := Lib.hid (by unfold nR; rw [if_neg h1])
      clear h1
      have hA := (Ext.refl w5).alloc (.cells #[.pointer (some ⟨g6, 1, none⟩)] 165)
      have hBN := heap_alloc_new w5 (.cells #[.pointer (some ⟨g6, 1, none⟩)] 165)
      have hPA := hP.ext hA
      have hnum := lcNumbers_any gr g6 w5.heap.size 1 [1] rfl (.slice (some ⟨bb, oo, none⟩) n0 c) b ((pn : Int) + 1) 75 [.int .i64 kd, .int .i64 0, .int .i64 0] (w5.alloc (.cells #[.pointer (some ⟨g6, 1, none⟩)] 165)) (HX.out.mono hPA.kept (fun i hi => by have := hP.low; simp only [List.mem_cons, List.not_mem_nil, or_false] at hi ⊢; omega)) hPA.rd hPA.plc (by decide) (by decide) (by simp) (by omega) hBN hnb
      rw [numsR_one] at hnum
      clear hBN hA hP
      go_wp2_with fail
      rcases htr : numR b ((pn : Int) + 1) with e | ⟨v, q⟩
      · rw [htr] at hnum
        refine hnum.mono ?_
        rintro en w6 ⟨rfl, he0, ⟨vs, hvl, hg⟩, hk⟩
        obtain ⟨n1, hsh⟩ := shape1 hvl kd
        rw [hsh] at hg
        have HPF : Hid (plcR b (pn : Int) = .error e) := Lib.hid (by rw [HPM.out, HN.out, htr])
        have e0 : (e != 0) = true := by simpa using he0
        have HE0 := Lib.hid he0
        have hr6 : w6.heap[g2]? = some (.cells #[.int .i64 0, .int .i64 0, .int .i64 0] 75 (0, 0)) := hk.heap hPA.res (heap_lt hPA.res) (fun hm => by have := hPA.low; have := hPA.ne; simp only [List.mem_cons, List.not_mem_nil, or_false] at hm; omega)
        have hk6 : Kept w.heap.size [gr] w w6 := ⟨hk.os.trans hPA.kept.os, hk.tape.trans hPA.kept.tape, hk.output.trans hPA.kept.output, Nat.le_trans hPA.kept.size hk.size, fun i hi hn => (hk.block i (Nat.lt_of_lt_of_le hi hPA.kept.size) (fun hm => by
          have := hPA.low
          simp only [List.mem_cons, List.not_mem_nil, or_false] at hm
          rcases hm with e | e
          · exact hn (by simp [e])
          · omega)).trans (hPA.kept.block i hi hn)⟩
        have hlo := hPA.low
        clear htr hnum he0 hvl hk hPA hsh
        have hldt := run_loadAt_blk (P := Try.prog) w6 g6 75 75 _ (0, 0) _ hg Try.underlying75 rfl pc_size
        have hstt := run_storeAt_blk (P := Try.prog) w6 g2 75 75 _ #[.int .i64 kd, .int .i64 n1, .int .i64 0] hr6 pc_size rfl (by simp [Value.oneCell'])
        go_wp2_with first | refine wpList_load_run rfl 75 (.tmp 6) rfl _ _ rfl hldt ?_ | refine wpList_store_run rfl 75 (.tmp 2) (.tmp 62) rfl _ _ _ rfl rfl hstt ?_
        have hZ9 := setRow_heap w6 g2 _ #[.int .i64 kd, .int .i64 n1, .int .i64 0] _ _ hr6
        have hk9 := hk6.trans (Kept.of_grown (gsetRow w6 g2 #[.int .i64 kd, .int .i64 n1, .int .i64 0]) hk6.size (fun k e => by cases e; exact .inl hlo.1))
        clear hldt hstt
        generalize w6.setRow g2 #[.int .i64 kd, .int .i64 n1, .int .i64 0] = w9 at *
        obtain ⟨k0, k1, k2⟩ := blk3 hZ9
        refine bodyPost_ret (v := .tuple #[.agg #[.int .i64 kd, .int .i64 n1, .int .i64 0], .int .i64 e]) (by simp [results, Try.results107, go_sem, k0, k1, k2]) rfl ?_
        rw [HPF.out]
        exact ⟨⟨_, _, _, rfl⟩, HE0.out, hk9⟩
      · rw [htr] at hnum
        refine hnum.mono ?_
        rintro en w6 ⟨rfl, hg, hr6, hk⟩
        have hP6 := hPA.nums (b1 := kd) (b2 := v) (b3 := 0) hk hg hr6
        have hq1 := numR_ok htr
        have hq2 := numR_pos htr
        have HN2 : Hid (nR b kd ((pn : Int) + 1) = .ok (v, q)) := Lib.hid (by rw [HN.out, htr])
        clear htr hnum hk hPA hg hr6
        have e0 : ((0 : Int) != 0) = false := rfl
        go_wp2_with fail
        go_meet
        exact ⟨v, q, HN2, by omega, hP6⟩
  obtain ⟨n, q, HN, hq, hP⟩ := hcut
  obtain ⟨w7, rfl⟩ : ∃ W : World, W = wc := ⟨_, rfl⟩
  cases pl with
  | false =>
    have h8 : ¬ 8 ≤ k := by simpa using HPV.out
    have HPF : Hid (plcR b (pn : Int) = .ok (⟨kd, n, 0⟩, q)) := Lib.hid (by rw [HPM.out, HN.out]; simp only; rw [if_neg h8])
    clear h8
    have hldt := run_loadAt_blk (P := Try.prog) w7 g6 75 75 _ (0, 0) _ hP.plc Try.underlying75 rfl pc_size
    have hstt := run_storeAt_blk (P := Try.prog) w7 g2 75 75 _ #[.int .i64 kd, .int .i64 n, .int .i64 0] hP.res pc_size rfl (by simp [Value.oneCell'])
    go_wp2_with first | refine wpList_load_run rfl 75 (.tmp 6) rfl _ _ rfl hldt ?_ | refine wpList_store_run rfl 75 (.tmp 2) (.tmp 91) rfl _ _ _ rfl rfl hstt ?_
    have hZ9 := setRow_heap w7 g2 _ #[.int .i64 kd, .int .i64 n, .int .i64 0] _ _ hP.res
    have hk9 := hP.kept.trans (Kept.of_grown (gsetRow w7 g2 #[.int .i64 kd, .int .i64 n, .int .i64 0]) hP.kept.size (fun k e => by cases e; exact .inl hP.low.1))
    have hr9 := blk_grown hP.rd (gsetRow w7 g2 #[.int .i64 kd, .int .i64 n, .int .i64 0]) (fun e => hP.ne.2 (by cases e; rfl))
    clear hldt hstt
    generalize w7.setRow g2 #[.int .i64 kd, .int .i64 n, .int .i64 0] = w9 at *
    obtain ⟨k0, k1, k2⟩ := blk3 hZ9
    refine bodyPost_ret (v := .tuple #[.agg #[.int .i64 kd, .int .i64 n, .int .i64 0], .int .i64 0]) (by simp [results, Try.results107, go_sem, k0, k1, k2]) rfl ?_
    rw [HPF.out]
    exact ⟨rfl, hr9, hk9⟩
  | true =>
    have h8 : 8 ≤ k := by simpa using HPV.out
    have HPN : Hid (plcR b (pn : Int) = if (intR b q).2.2 ≠ 0 then .error (intR b q).2.2 else if (intR b q).1 = 0 then .error 4 else .ok (⟨kd, n, (intR b q).1⟩, (intR b q).2.1)) := Lib.hid (by rw [HPM.out, HN.out]; simp only; rw [if_pos h8])
    clear h8 HPM
    obtain ⟨v, next, er, hr⟩ : ∃ v next er, intR b q = (v, next, er) := ⟨_, _, _, rfl⟩
    rw [hr] at HPN
    dsimp only at HPN
    have HR := Lib.hid hr
    clear hr
    obtain ⟨c0, c1⟩ : w7.cell? ⟨gr, 0, none⟩ = some (.slice (some ⟨bb, oo, none⟩) n0 c) ∧ w7.cell? ⟨gr, 1, none⟩ = some (.int .i64 q) := ⟨blk_at hP.rd 0 _ rfl, blk_at hP.rd 1 _ rfl⟩
    go_upto_region 16 with fail
    refine wp_region_X #[true, true, true, true, true, true, true, true, true, true, true, true, true, false, false, false] 13 3 (by kernel_rfl) rfl ?_
    refine wpX_vt 0 (.pointer (some ⟨gr, 0, none⟩)) rfl rfl (by kernel_rfl) (by kernel_rfl) (by kernel_rfl) (fun _ _ _ _ h => h) (by kernel_rfl) rfl (by rfl) (fun W' hW => by
      skip
      go_simp) ?_
    simp only [List.setIfInBounds_toArray, List.set_cons_zero, List.set_cons_succ]
    refine wpX_vt 1 (.pointer (some ⟨gr, 0, none⟩)) rfl rfl (by kernel_rfl) (by kernel_rfl) (by kernel_rfl) (fun _ _ _ _ h => h) (by kernel_rfl) rfl (by rfl) (fun W' hW => by
      skip
      go_simp) ?_
    simp only [List.setIfInBounds_toArray, List.set_cons_zero, List.set_cons_succ]
    refine wpX_vt 2 (.pointer (some ⟨gr, 0, none⟩)) rfl rfl (by kernel_rfl) (by kernel_rfl) (by kernel_rfl) (fun _ _ _ _ h => h) (by kernel_rfl) rfl (by rfl) (fun W' hW => by
      skip
      go_simp) ?_
    simp only [List.setIfInBounds_toArray, List.set_cons_zero, List.set_cons_succ]
    refine wpX_vt 3 (.slice (some ⟨bb, oo, none⟩) n0 c) rfl rfl (by kernel_rfl) (by kernel_rfl) (by kernel_rfl) (fun _ _ _ _ h => h) (by kernel_rfl) rfl (by rfl) (fun W' hW => by
      have z := (((Ext.refl w7).drew).trans hW).cell c0
      go_simp) ?_
    simp only [List.setIfInBounds_toArray, List.set_cons_zero, List.set_cons_succ]
    refine wpX_vt 4 (.pointer (some ⟨gr, 0, none⟩)) rfl rfl (by kernel_rfl) (by kernel_rfl) (by kernel_rfl) (fun _ _ _ _ h => h) (by kernel_rfl) rfl (by rfl) (fun W' hW => by
      skip
      go_simp) ?_
    simp only [List.setIfInBounds_toArray, List.set_cons_zero, List.set_cons_succ]
    refine wpX_vt 5 (.pointer (some ⟨gr, 0, none⟩)) rfl rfl (by kernel_rfl) (by kernel_rfl) (by kernel_rfl) (fun _ _ _ _ h => h) (by kernel_rfl) rfl (by rfl) (fun W' hW => by
      skip
      go_simp) ?_
    simp only [List.setIfInBounds_toArray, List.set_cons_zero, List.set_cons_succ]
    refine wpX_vt 6 (.pointer (some ⟨gr, 1, none⟩)) rfl rfl (by kernel_rfl) (by kernel_rfl) (by kernel_rfl) (fun _ _ _ _ h => h) (by kernel_rfl) rfl (by rfl) (fun W' hW => by
      skip
      go_simp) ?_
    simp only [List.setIfInBounds_toArray, List.set_cons_zero, List.set_cons_succ]
    refine wpX_vt 7 (.int .i64 q) rfl rfl (by kernel_rfl) (by kernel_rfl) (by kernel_rfl) (fun _ _ _ _ h => h) (by kernel_rfl) rfl (by rfl) (fun W' hW => by
      have z := (((Ext.refl w7).drew).trans hW).cell c1
      go_simp) ?_
    simp only [List.setIfInBounds_toArray, List.set_cons_zero, List.set_cons_succ]
    refine wpX_c 8 115 #[.slice (some ⟨bb, oo, none⟩) n0 c, .int .i64 q] rfl rfl (by kernel_rfl) rfl rfl (fun W => by go_simp) ?_
    intro W1 hW1
    have hX1 := ((Ext.refl w7).drew).trans hW1
    have hx1 : InB W1 (.slice (some ⟨bb, oo, none⟩) n0 c) b := (HX.out w7 hP.kept).ext hX1
    refine (Int_any _ b q W1 hx1 (by omega)).mono ?_
    rw [HR.out]
    rintro en w8 ⟨rfl, he8⟩
    refine ⟨_, rfl, he8, ?_⟩
    simp only [List.setIfInBounds_toArray, List.set_cons_zero, List.set_cons_succ]
    refine wpX_vt 9 (.tuple #[.int .i64 v, .int .i64 next, .int .i64 er]) rfl rfl (by kernel_rfl) (by kernel_rfl) (by kernel_rfl) (fun _ _ _ _ h => h) (by kernel_rfl) rfl (by rfl) (fun W' hW => by
      skip
      go_simp) ?_
    simp only [List.setIfInBounds_toArray, List.set_cons_zero, List.set_cons_succ]
    refine wpX_vt 10 (.int .i64 v) rfl rfl (by kernel_rfl) (by kernel_rfl) (by kernel_rfl) (fun _ _ _ _ h => h) (by kernel_rfl) rfl (by rfl) (fun W' hW => by
      skip
      go_simp) ?_
    simp only [List.setIfInBounds_toArray, List.set_cons_zero, List.set_cons_succ]
    refine wpX_l 11 (.int .i64 next) rfl rfl (by kernel_rfl) (by kernel_rfl) (by kernel_rfl) (fun _ _ _ _ h => h) (LateOK_any rfl (by kernel_rfl) (fun _ _ _ h => h)) rfl (by rfl) (fun W' => by go_simp) ?_
    simp only [List.setIfInBounds_toArray, List.set_cons_zero, List.set_cons_succ]
    refine wpX_l 12 (.int .i64 er) rfl rfl (by kernel_rfl) (by kernel_rfl) (by kernel_rfl) (fun _ _ _ _ h => h) (LateOK_any rfl (by kernel_rfl) (fun _ _ _ h => h)) rfl (by rfl) (fun W' => by go_simp) ?_
    simp only [List.setIfInBounds_toArray, List.set_cons_zero, List.set_cons_succ]
    refine wpX_end rfl fun W9 hW9 => tail_seq 13 rfl (by kernel_rfl) ?_
    simp only [List.drop_succ_cons, List.drop_zero]
    have hP9 := hP.ext ((hX1.trans he8).trans hW9)
    clear hW1 hX1 hW9 he8 c0 c1 hx1 hP HN
    go_upto_region 17 with fail
    refine NoPanic.normal ?_
    by_cases h0 : er = 0
    case neg =>
      have HPF : Hid (plcR b (pn : Int) = .error er) := Lib.hid (by rw [HPN.out, if_pos h0])
      have e0 : (er != 0) = true := by simpa using h0
      have HE0 := Lib.hid h0
      clear h0
      have hldt := run_loadAt_blk (P := Try.prog) W9 g6 75 75 _ (0, 0) _ hP9.plc Try.underlying75 rfl pc_size
      have hstt := run_storeAt_blk (P := Try.prog) W9 g2 75 75 _ #[.int .i64 kd, .int .i64 n, .int .i64 0] hP9.res pc_size rfl (by simp [Value.oneCell'])
      go_wp2_with first | refine wpList_load_run rfl 75 (.tmp 6) rfl _ _ rfl hldt ?_ | refine wpList_store_run rfl 75 (.tmp 2) (.tmp 80) rfl _ _ _ rfl rfl hstt ?_
      have hZ9 := setRow_heap W9 g2 _ #[.int .i64 kd, .int .i64 n, .int .i64 0] _ _ hP9.res
      have hk9 := hP9.kept.trans (Kept.of_grown (gsetRow W9 g2 #[.int .i64 kd, .int .i64 n, .int .i64 0]) hP9.kept.size (fun k e => by cases e; exact .inl hP9.low.1))
      have hr9 := blk_grown hP9.rd (gsetRow W9 g2 #[.int .i64 kd, .int .i64 n, .int .i64 0]) (fun e => hP9.ne.2 (by cases e; rfl))
      clear hldt hstt
      generalize W9.setRow g2 #[.int .i64 kd, .int .i64 n, .int .i64 0] = w9 at *
      obtain ⟨k0, k1, k2⟩ := blk3 hZ9
      refine bodyPost_ret (v := .tuple #[.agg #[.int .i64 kd, .int .i64 n, .int .i64 0], .int .i64 er]) (by simp [results, Try.results107, go_sem, k0, k1, k2]) rfl ?_
      rw [HPF.out]
      exact ⟨⟨_, _, _, rfl⟩, HE0.out, hk9⟩
    have e0 : (er != 0) = false := by simpa using h0
    by_cases hv0 : v = 0
    case pos =>
      have HPF : Hid (plcR b (pn : Int) = .error 4) := Lib.hid (by rw [HPN.out, if_neg (by simp [h0]), if_pos hv0])
      have e1 : (v == 0) = true := by simpa using hv0
      clear h0 hv0
      have hldt := run_loadAt_blk (P := Try.prog) W9 g6 75 75 _ (0, 0) _ hP9.plc Try.underlying75 rfl pc_size
      have hstt := run_storeAt_blk (P := Try.prog) W9 g2 75 75 _ #[.int .i64 kd, .int .i64 n, .int .i64 0] hP9.res pc_size rfl (by simp [Value.oneCell'])
      go_wp2_with first | refine wpList_load_run rfl 75 (.tmp 6) rfl _ _ rfl hldt ?_ | refine wpList_store_run rfl 75 (.tmp 2) (.tmp 84) rfl _ _ _ rfl rfl hstt ?_
      have hZ9 := setRow_heap W9 g2 _ #[.int .i64 kd, .int .i64 n, .int .i64 0] _ _ hP9.res
      have hk9 := hP9.kept.trans (Kept.of_grown (gsetRow W9 g2 #[.int .i64 kd, .int .i64 n, .int .i64 0]) hP9.kept.size (fun k e => by cases e; exact .inl hP9.low.1))
      have hr9 := blk_grown hP9.rd (gsetRow W9 g2 #[.int .i64 kd, .int .i64 n, .int .i64 0]) (fun e => hP9.ne.2 (by cases e; rfl))
      clear hldt hstt
      generalize W9.setRow g2 #[.int .i64 kd, .int .i64 n, .int .i64 0] = w9 at *
      obtain ⟨k0, k1, k2⟩ := blk3 hZ9
      refine bodyPost_ret (v := .tuple #[.agg #[.int .i64 kd, .int .i64 n, .int .i64 0], .int .i64 4]) (by simp [results, Try.results107, go_sem, k0, k1, k2]) rfl ?_
      rw [HPF.out]
      exact ⟨⟨_, _, _, rfl⟩, by omega, hk9⟩
    have HPF : Hid (plcR b (pn : Int) = .ok (⟨kd, n, v⟩, next)) := Lib.hid (by rw [HPN.out, if_neg (by simp [h0]), if_neg hv0])
    have e1 : (v == 0) = false := by simpa using hv0
    clear h0 hv0
    have hPa := hP9.add v
    have hPb := hPa.at_ next
    obtain ⟨f1, q1, l1⟩ := (⟨blk_free hP9.plc 2, blk_at hP9.plc 2 _ rfl, heap_lt hP9.plc⟩ : W9.frozen? ⟨g6, 2, none⟩ = false ∧ W9.cell? ⟨g6, 2, none⟩ = some (.int .i64 0) ∧ g6 < W9.heap.size)
    obtain ⟨f2, q2, l2⟩ := (⟨blk_free hPa.rd 1, blk_at hPa.rd 1 _ rfl, heap_lt hPa.rd⟩ : (W9.setCell ⟨g6, 2, none⟩ (.int .i64 v)).frozen? ⟨gr, 1, none⟩ = false ∧ (W9.setCell ⟨g6, 2, none⟩ (.int .i64 v)).cell? ⟨gr, 1, none⟩ = some (.int .i64 q) ∧ gr < (W9.setCell ⟨g6, 2, none⟩ (.int .i64 v)).heap.size)
    go_upto_region 22 with fail
    clear f1 q1 l1 f2 q2 l2 hPa hP9
    generalize (W9.setCell ⟨g6, 2, none⟩ (.int .i64 v)).setCell ⟨gr, 1, none⟩ (.int .i64 next) = w11 at *
    have hldt := run_loadAt_blk (P := Try.prog) w11 g6 75 75 _ (0, 0) _ hPb.plc Try.underlying75 rfl pc_size
    have hstt := run_storeAt_blk (P := Try.prog) w11 g2 75 75 _ #[.int .i64 kd, .int .i64 n, .int .i64 v] hPb.res pc_size rfl (by simp [Value.oneCell'])
    go_wp2_with first | refine wpList_load_run rfl 75 (.tmp 6) rfl _ _ rfl hldt ?_ | refine wpList_store_run rfl 75 (.tmp 2) (.tmp 91) rfl _ _ _ rfl rfl hstt ?_
    have hZ9 := setRow_heap w11 g2 _ #[.int .i64 kd, .int .i64 n, .int .i64 v] _ _ hPb.res
    have hk9 := hPb.kept.trans (Kept.of_grown (gsetRow w11 g2 #[.int .i64 kd, .int .i64 n, .int .i64 v]) hPb.kept.size (fun k e => by cases e; exact .inl hPb.low.1))
    have hr9 := blk_grown hPb.rd (gsetRow w11 g2 #[.int .i64 kd, .int .i64 n, .int .i64 v]) (fun e => hPb.ne.2 (by cases e; rfl))
    clear hldt hstt
    generalize w11.setRow g2 #[.int .i64 kd, .int .i64 n, .int .i64 v] = w9 at *
    obtain ⟨k0, k1, k2⟩ := blk3 hZ9
    refine bodyPost_ret (v := .tuple #[.agg #[.int .i64 kd, .int .i64 n, .int .i64 v], .int .i64 0]) (by simp [results, Try.results107, go_sem, k0, k1, k2]) rfl ?_
    rw [HPF.out]
    exact ⟨rfl, hr9, hk9⟩
end Go.Proofs.Ytokmbdeafjmcjaa
