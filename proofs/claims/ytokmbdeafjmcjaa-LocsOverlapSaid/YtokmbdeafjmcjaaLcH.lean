/- The reader of locs.Decode: its numbers. -/
import Derived.Test.YtokmbdeafjmcjaaLcF
import Derived.Test.YtokmbdeafjmcjaaCfD
namespace Go.Proofs.Ytokmbdeafjmcjaa
open Go.RowKit
set_option linter.unusedVariables false
set_option linter.unusedSimpArgs false

/-! the reader -/
def RdPostL (gr : Nat) (x : Value) (b : List UInt8) (p : Int) (w : World) (en : Ending) (w' : World) : Prop :=
  en = .returned (.tuple #[.int .i64 (uintR b p).1, .int .i64 (uintR b p).2.2]) ∧ w'.heap[gr]? = some (.cells #[x, .int .i64 (if (uintR b p).2.2 = 0 then (uintR b p).2.1 else p)] 147 (0, 0)) ∧ w.grownBy w' (some gr)
set_option maxHeartbeats 4000000 in
set_option maxRecDepth 100000 in
theorem lcU_any (gr : Nat) (x : Value) (b : List UInt8) (p : Int) (w : World) (hx : InB w x b) (hb : w.heap[gr]? = some (.cells #[x, .int .i64 p] 147 (0, 0))) (hl : b.length ≤ 1000000) :
    Calls Try.prog 105 #[.pointer (some ⟨gr, 0, none⟩)] w (RdPostL gr x b p w) := by
  obtain ⟨A, c, rfl, _, _⟩ := id hx
  obtain ⟨n0, hn0⟩ : ∃ n0, n0 = b.length := ⟨_, rfl⟩
  rw [← hn0] at hb ⊢
  have c0 := blk_at hb 0 _ rfl
  have c1 := blk_at hb 1 _ rfl
  have HN0 := Lib.hid hn0
  clear hn0
  obtain ⟨v, next, er, hr⟩ : ∃ v next er, uintR b p = (v, next, er) := ⟨_, _, _, rfl⟩
  unfold RdPostL
  rw [hr]
  have HR := Lib.hid hr
  clear hr
  go_enter Try.func105, Try.ntmps105
  go_upto_region 1 with fail
  refine wp_region_X #[true, true, true, true, true, true, true, true, true, true, true, true, true, false, false, false] 13 3 (by kernel_rfl) rfl ?_
  refine wpX_vt 0 (.pointer (some ⟨gr, 0, none⟩)) rfl rfl (by kernel_rfl) (by kernel_rfl) (by kernel_rfl) (fun _ _ _ _ h => h) (by kernel_rfl) rfl (by rfl) (fun W' hW => by
    skip
    go_simp) ?_
  simp only [List.setIfInBounds_toArray, List.set_cons_zero, List.set_cons_succ]
  refine wpX_vt 1 (.pointer (some ⟨gr, 0, none⟩)) rfl rfl (by kernel_rfl) (by kernel_rfl) (by kernel_rfl) (fun _ _ _ _ h => h) (by kernel_rfl) rfl (by rfl) (fun W' hW => by
    skip
    go_simp) ?_
  simp only [List.setIfInBounds_toArray, List.set_cons_zero, List.set_cons_succ]
  refine wpX_vt 2 (.pointer (some ⟨gr, 0, none⟩)) rfl rfl (by kernel_rfl) (by kernel_rfl) (by kernel_rfl) (fun _ _ _ _ h => h) (by kernel_rfl) rfl (by rfl) (fun W' hW => by
    skip
    go_simp) ?_
  simp only [List.setIfInBounds_toArray, List.set_cons_zero, List.set_cons_succ]
  refine wpX_vt 3 (.slice A n0 c) rfl rfl (by kernel_rfl) (by kernel_rfl) (by kernel_rfl) (fun _ _ _ _ h => h) (by kernel_rfl) rfl (by rfl) (fun W' hW => by
    have z := (((Ext.refl w).drew).trans hW).cell c0
    go_simp) ?_
  simp only [List.setIfInBounds_toArray, List.set_cons_zero, List.set_cons_succ]
  refine wpX_vt 4 (.pointer (some ⟨gr, 0, none⟩)) rfl rfl (by kernel_rfl) (by kernel_rfl) (by kernel_rfl) (fun _ _ _ _ h => h) (by kernel_rfl) rfl (by rfl) (fun W' hW => by
    skip
    go_simp) ?_
  simp only [List.setIfInBounds_toArray, List.set_cons_zero, List.set_cons_succ]
  refine wpX_vt 5 (.pointer (some ⟨gr, 0, none⟩)) rfl rfl (by kernel_rfl) (by kernel_rfl) (by kernel_rfl) (fun _ _ _ _ h => h) (by kernel_rfl) rfl (by rfl) (fun W' hW => by
    skip
    go_simp) ?_
  simp only [List.setIfInBounds_toArray, List.set_cons_zero, List.set_cons_succ]
  refine wpX_vt 6 (.pointer (some ⟨gr, 1, none⟩)) rfl rfl (by kernel_rfl) (by kernel_rfl) (by kernel_rfl) (fun _ _ _ _ h => h) (by kernel_rfl) rfl (by rfl) (fun W' hW => by
    skip
    go_simp) ?_
  simp only [List.setIfInBounds_toArray, List.set_cons_zero, List.set_cons_succ]
  refine wpX_vt 7 (.int .i64 p) rfl rfl (by kernel_rfl) (by kernel_rfl) (by kernel_rfl) (fun _ _ _ _ h => h) (by kernel_rfl) rfl (by rfl) (fun W' hW => by
    have z := (((Ext.refl w).drew).trans hW).cell c1
    go_simp) ?_
  simp only [List.setIfInBounds_toArray, List.set_cons_zero, List.set_cons_succ]
  refine wpX_c 8 86 #[.slice A n0 c, .int .i64 p] rfl rfl (by kernel_rfl) rfl rfl (fun W => by go_simp) ?_
  intro W1 hW1
  have hX1 := ((Ext.refl w).drew).trans hW1
  have hx1 : InB W1 (.slice A n0 c) b := by rw [HN0.out]; exact hx.ext hX1
  refine (Uint_any _ b p W1 hx1 (by omega)).mono ?_
  rw [HR.out]
  rintro en w5 ⟨rfl, he5⟩
  refine ⟨_, rfl, he5, ?_⟩
  simp only [List.setIfInBounds_toArray, List.set_cons_zero, List.set_cons_succ]
  refine wpX_vt 9 (.tuple #[.int .i64 v, .int .i64 next, .int .i64 er]) rfl rfl (by kernel_rfl) (by kernel_rfl) (by kernel_rfl) (fun _ _ _ _ h => h) (by kernel_rfl) rfl (by rfl) (fun W' hW => by
    skip
    go_simp) ?_
  simp only [List.setIfInBounds_toArray, List.set_cons_zero, List.set_cons_succ]
  refine wpX_vt 10 (.int .i64 v) rfl rfl (by kernel_rfl) (by kernel_rfl) (by kernel_rfl) (fun _ _ _ _ h => h) (by kernel_rfl) rfl (by rfl) (fun W' hW => by
    skip
    go_simp) ?_
  simp only [List.setIfInBounds_toArray, List.set_cons_zero, List.set_cons_succ]
  refine wpX_l 11 (.int .i64 next) rfl rfl (by kernel_rfl) (by kernel_rfl) (by kernel_rfl) (fun _ _ _ _ h => h) (LateOK_any rfl (by kernel_rfl) (fun _ _ _ h => h)) rfl (by rfl) (fun W' => by go_simp) ?_
  simp only [List.setIfInBounds_toArray, List.set_cons_zero, List.set_cons_succ]
  refine wpX_l 12 (.int .i64 er) rfl rfl (by kernel_rfl) (by kernel_rfl) (by kernel_rfl) (fun _ _ _ _ h => h) (LateOK_any rfl (by kernel_rfl) (fun _ _ _ h => h)) rfl (by rfl) (fun W' => by go_simp) ?_
  simp only [List.setIfInBounds_toArray, List.set_cons_zero, List.set_cons_succ]
  refine wpX_end rfl fun W7 hW7 => tail_seq 13 rfl (by kernel_rfl) ?_
  simp only [List.drop_succ_cons, List.drop_zero]
  have hX7 := (hX1.trans he5).trans hW7
  have hb7 := hX7.heap hb
  have f1 := blk_free hb7 1
  have q1 := blk_at hb7 1 _ rfl
  have hlt := heap_lt hb7
  clear hW1 hX1 hW7 he5 c0 c1 hx1 hb
  go_wp2_with fail
  refine NoPanic.normal ?_
  by_cases h0 : er = 0
  · have e0 : (er == 0) = true := by simpa using h0
    have H0 := Lib.hid h0
    clear h0
    go_wp2_with fail
    refine bodyPost_ret (by simp [results, Try.results105, go_sem]; rfl) rfl ?_
    refine ⟨rfl, ?_, gtrans (Ext.grown0 hX7) (gset _ _ _)⟩
    exact blk_set hb7 1 (.int .i64 next)
  · have e0 : (er == 0) = false := by simpa using h0
    have H0 := Lib.hid h0
    clear h0
    go_wp2_with fail
    refine bodyPost_ret (by simp [results, Try.results105, go_sem]; rfl) rfl ?_
    refine ⟨rfl, ?_, Ext.grown0 hX7⟩
    exact hb7
def CntPostL (gr : Nat) (x : Value) (r : Except Int (Int × Int)) (w : World) (en : Ending) (w' : World) : Prop :=
  match r with
  | .error e => (∃ v, en = .returned (.tuple #[.int .i64 v, .int .i64 e])) ∧ e ≠ 0 ∧ w.grownBy w' (some gr)
  | .ok (v, q) => en = .returned (.tuple #[.int .i64 v, .int .i64 0]) ∧ w'.heap[gr]? = some (.cells #[x, .int .i64 q] 147 (0, 0)) ∧ w.grownBy w' (some gr)
set_option maxHeartbeats 4000000 in
set_option maxRecDepth 100000 in
theorem lcCount_any (gr : Nat) (x : Value) (b : List UInt8) (p m : Int) (w : World) (hx : InB w x b) (hb : w.heap[gr]? = some (.cells #[x, .int .i64 p] 147 (0, 0))) (hl : b.length ≤ 1000000) :
    Calls Try.prog 89 #[.pointer (some ⟨gr, 0, none⟩), .int .i64 m] w (CntPostL gr x (cntR m b p) w) := by
  have HXX := Lib.hid hx
  have HBB := Lib.hid hb
  clear hx hb
  go_enter Try.func89, Try.ntmps89
  go_wp2_with fail
  refine (lcU_any gr x b p w HXX.out HBB.out hl).mono ?_
  rintro en w2 ⟨rfl, hb2, hg2⟩
  obtain ⟨v, next, er, hr⟩ : ∃ v next er, uintR b p = (v, next, er) := ⟨_, _, _, rfl⟩
  rw [hr] at hb2 ⊢
  dsimp only at hb2 ⊢
  by_cases h0 : er = 0
  case neg =>
    have e0 : (er == 0) = false := by simpa using h0
    have HP : Hid (CntPostL gr x (cntR m b p) w (.returned (.tuple #[.int .i64 v, .int .i64 er])) w2) := Lib.hid (by
      unfold cntR
      rw [hr, if_pos (by simpa using h0)]
      exact ⟨⟨v, rfl⟩, h0, hg2⟩)
    clear h0 hr hb2
    go_wp2_with fail
    refine bodyPost_ret (by simp [results, Try.results89, go_sem]; rfl) rfl ?_
    exact HP.out
  have e0 : (er == 0) = true := by simpa using h0
  rw [if_pos h0] at hb2
  subst h0
  clear e0
  have e0 : ((0 : Int) == 0) = true := rfl
  by_cases h1 : m < v
  · have d1 : decide (m < v) = true := by simpa using h1
    have HP : Hid (CntPostL gr x (cntR m b p) w (.returned (.tuple #[.int .i64 0, .int .i64 5])) w2) := Lib.hid (by
      unfold cntR
      rw [hr, if_neg (by simp), if_pos h1]
      exact ⟨⟨0, rfl⟩, by omega, hg2⟩)
    clear h1 hr hb2
    go_wp2_with fail
    refine bodyPost_ret (by simp [results, Try.results89, go_sem]; rfl) rfl ?_
    exact HP.out
  · have d1 : decide (m < v) = false := by simpa using h1
    have HP : Hid (CntPostL gr x (cntR m b p) w (.returned (.tuple #[.int .i64 v, .int .i64 0])) w2) := Lib.hid (by
      unfold cntR
      rw [hr, if_neg (by simp), if_neg h1]
      exact ⟨rfl, hb2, hg2⟩)
    clear h1 hr hb2
    go_wp2_with fail
    refine bodyPost_ret (by simp [results, Try.results89, go_sem]; rfl) rfl ?_
    exact HP.out
/-! numbers that are written through pointers -/
def ptrsL (g : Nat) (os : List Nat) : List Value := os.map fun i => .pointer (some ⟨g, i, none⟩)
/-- cells written one after another -/
def putN (C : List Value) : List Nat → List Int → List Value
  | o :: os, v :: vs => putN (C.set o (.int .i64 v)) os vs
  | _, _ => C
theorem putN_len : ∀ (os : List Nat) (vs : List Int) (C : List Value), (putN C os vs).length = C.length
  | o :: os, v :: vs, C => by rw [putN, putN_len]; simp
  | [], _, C => by cases ‹List Int› <;> rfl
  | _ :: _, [], C => rfl
theorem putN_snoc : ∀ (vs : List Int) (os : List Nat) (C : List Value) (h : vs.length < os.length) (v : Int), putN C os (vs ++ [v]) = (putN C os vs).set os[vs.length] (.int .i64 v)
  | [], o :: os, C, _, v => by cases os <;> rfl
  | x :: vs, o :: os, C, h, v => by
    have h' : vs.length < os.length := by simpa using h
    simp only [List.cons_append, putN, List.length_cons, List.getElem_cons_succ]
    exact putN_snoc vs os (C.set o (.int .i64 x)) h' v
  | [], [], C, h, v => absurd h (by simp)
  | x :: vs, [], C, h, v => absurd h (by simp)
theorem putN_nil (C : List Value) (os : List Nat) : putN C os [] = C := by cases os <;> rfl
def NumsPostL (gr g : Nat) (x : Value) (T : TypeId) (C : List Value) (os : List Nat) (r : Except Int (List Int × Int)) (w : World) (en : Ending) (w' : World) : Prop :=
  match r with
  | .error e => en = .returned (.int .i64 e) ∧ e ≠ 0 ∧ (∃ vs : List Int, vs.length ≤ os.length ∧ w'.heap[g]? = some (.cells (putN C os vs).toArray T (0, 0))) ∧ Kept w.heap.size [gr, g] w w'
  | .ok (vs, q) => en = .returned (.int .i64 0) ∧ w'.heap[g]? = some (.cells (putN C os vs).toArray T (0, 0)) ∧ w'.heap[gr]? = some (.cells #[x, .int .i64 q] 147 (0, 0)) ∧ Kept w.heap.size [gr, g] w w'
set_option maxHeartbeats 4000000 in
set_option maxRecDepth 100000 in
theorem lcNumbers_any (gr g gy n : Nat) (os : List Nat) (hos : n = os.length) (x : Value) (b : List UInt8) (p : Int) (T : TypeId) (C : List Value) (w : World) (hx : St [gr, g] w (fun W => InB W x b)) (hb : w.heap[gr]? = some (.cells #[x, .int .i64 p] 147 (0, 0)))
    (hg : w.heap[g]? = some (.cells C.toArray T (0, 0))) (hT : T ≠ 147) (hT2 : T ≠ 165) (hn : ∀ o ∈ os, o < C.length) (hn4 : n ≤ 5) (hy : w.heap[gy]? = some (.cells (ptrsL g os).toArray 165 (0, 0))) (hl : b.length ≤ 1000000) :
    Calls Try.prog 106 #[.pointer (some ⟨gr, 0, none⟩), .slice (some ⟨gy, 0, none⟩) n n] w (NumsPostL gr g x T C os (numsR b n p) w) := by
  have HXX := Lib.hid hx
  have ngr := blk_ne hg hb hT
  have nyr := blk_ne hy hb (by decide)
  have nyg := blk_ne hy hg (fun e => hT2 e.symm)
  have hgl := heap_lt hg
  have hrl := heap_lt hb
  have HLN := Lib.hid hn
  have HOS := Lib.hid hos
  clear hx hn hos
  go_enter Try.func106, Try.ntmps106
  go_wp2_with fail
  go_loopw [11] (fun i wr => ∃ (k : Nat) (vs : List Int) (q : Int), k ≤ n ∧ i = .int .i64 (k : Int) ∧ Hid (vs.length = k) ∧ Hid (numsR b n p = preR vs (numsR b (n - k) q)) ∧ wr.heap[g]? = some (.cells (putN C os vs).toArray T (0, 0)) ∧ wr.heap[gr]? = some (.cells #[x, .int .i64 q] 147 (0, 0)) ∧ wr.heap[gy]? = some (.cells (ptrsL g os).toArray 165 (0, 0)) ∧ Kept w.heap.size [gr, g] w wr) (fun i _ => n - (intOf i).toNat)
  case atStart => exact ⟨0, [], p, by omega, rfl, Lib.hid rfl, Lib.hid (by rw [preR_nil, Nat.sub_zero]), by rw [putN_nil]; exact hg, hb, hy, Kept.refl _ _ _⟩
  case round =>
    clear hg hb hy
    obtain ⟨k, vs, q, hk, rfl, HK, HN, hg, hb, hy, hK⟩ := hrel
    obtain ⟨wo, rfl⟩ : ∃ W : World, W = wr := ⟨_, rfl⟩
    by_cases hlt : k < n
    · have hik : (k : Int) < (n : Int) := by omega
      have hko : k < os.length := by rw [← HOS.out]; exact hlt
      have hoc := HLN.out _ (List.getElem_mem hko)
      obtain ⟨o, ho⟩ : ∃ o, o = os[k] := ⟨_, rfl⟩
      have hcell : wo.cell? ⟨gy, k, none⟩ = some (.pointer (some ⟨g, o, none⟩)) := blk_at hy k _ (by
        rw [List.getElem?_toArray, ptrsL, List.getElem?_map, List.getElem?_eq_getElem hko, ho]; rfl)
      rw [← ho] at hoc
      have HO := Lib.hid ho
      clear ho
      have HSN : Hid (n - k = (n - (k + 1)) + 1) := Lib.hid (by omega)
      go_wp2_with fail
      refine (lcU_any gr x b q wo (HXX.out wo hK) hb hl).mono ?_
      rintro en w2 ⟨rfl, hb2, hg2⟩
      obtain ⟨v, next, er, hr⟩ : ∃ v next er, uintR b q = (v, next, er) := ⟨_, _, _, rfl⟩
      rw [hr] at hb2 ⊢
      dsimp only at hb2 ⊢
      have hgg := blk_grown hg hg2 (fun e => ngr (by cases e; rfl))
      have hyy := blk_grown hy hg2 (fun e => nyr (by cases e; rfl))
      have hK2 := hK.trans (Kept.of_grown hg2 hK.size (fun k e => by cases e; exact .inr (by simp)))
      clear hcell hb hg hy hg2 hK
      by_cases h0 : er = 0
      case neg =>
        have e0 : (er != 0) = true := by simpa using h0
        have HP : Hid (NumsPostL gr g x T C os (numsR b n p) w (.returned (.int .i64 er)) w2) := Lib.hid (by
          rw [HN.out, HSN.out]
          have : numsR b (n - (k + 1) + 1) q = .error er := by
            unfold numsR numR
            rw [hr, if_pos (by simpa using h0)]
          rw [this]
          exact ⟨rfl, h0, ⟨vs, by have := HK.out; have := HOS.out; omega, hgg⟩, hK2⟩)
        clear h0 hr hb2
        go_wp2_with fail
        go_ret
        exact HP.out
      rw [if_pos h0] at hb2
      subst h0
      have e0 : ((0 : Int) != 0) = false := rfl
      by_cases h1 : 1099511627776 < v
      · have d1 : decide (1099511627776 < v) = true := by simpa using h1
        have HP : Hid (NumsPostL gr g x T C os (numsR b n p) w (.returned (.int .i64 2)) w2) := Lib.hid (by
          rw [HN.out, HSN.out]
          have : numsR b (n - (k + 1) + 1) q = .error 2 := by
            unfold numsR numR
            rw [hr, if_neg (by simp), if_pos h1]
          rw [this]
          exact ⟨rfl, by omega, ⟨vs, by have := HK.out; have := HOS.out; omega, hgg⟩, hK2⟩)
        clear h1 hr hb2
        go_wp2_with fail
        go_ret
        exact HP.out
      · have d1 : decide (1099511627776 < v) = false := by simpa using h1
        have HN2 : Hid (numsR b n p = preR (vs ++ [v]) (numsR b (n - (k + 1)) next)) := Lib.hid (by
          rw [HN.out, HSN.out]
          have : numsR b (n - (k + 1) + 1) q = preR [v] (numsR b (n - (k + 1)) next) := by
            conv => lhs; unfold numsR numR
            rw [hr, if_neg (by simp), if_neg h1]
          rw [this, preR_preR])
        have hvk : vs.length < os.length := by rw [HK.out]; exact hko
        obtain ⟨cv, hcv⟩ : ∃ cv, (putN C os vs)[o]? = some cv := ⟨_, List.getElem?_eq_getElem (by rw [putN_len]; exact hoc)⟩
        have q1 : w2.cell? ⟨g, o, none⟩ = some cv := blk_at hgg o _ (by rw [List.getElem?_toArray]; exact hcv)
        have f1 := blk_free hgg o
        have hlt1 := heap_lt hgg
        have s1 := gset w2 ⟨g, o, none⟩ (.int .i64 v)
        have hg3 : (w2.setCell ⟨g, o, none⟩ (.int .i64 v)).heap[g]? = some (.cells (putN C os (vs ++ [v])).toArray T (0, 0)) := by
          have h := blk_set hgg o (.int .i64 v)
          have e : os[vs.length] = o := by rw [HO.out]; simp only [HK.out]
          rw [putN_snoc vs os C hvk v, e, h]
          simp
        have hb3 := blk_grown hb2 s1 (fun e => ngr (by cases e; rfl))
        have hy3 := blk_grown hyy s1 (fun e => nyg (by cases e; rfl))
        have hK3 := hK2.trans (Kept.of_grown s1 hK2.size (fun k e => by cases e; exact .inr (by simp)))
        have HK3 : Hid ((vs ++ [v]).length = k + 1) := Lib.hid (by rw [List.length_append, HK.out]; rfl)
        clear h1 hr hb2 hgg hyy s1 hK2 hvk hcv HO hko hoc
        go_wp2_with fail
        go_roundw
        case rel => exact ⟨k + 1, vs ++ [v], next, by omega, by first | (with_reducible rfl) | go_num, HK3, HN2, hg3, hb3, hy3, hK3⟩
        case measure => simp [intOf]; omega
    · have hik : ¬ (k : Int) < (n : Int) := by omega
      have HP : Hid (NumsPostL gr g x T C os (numsR b n p) w (.returned (.int .i64 0)) wo) := Lib.hid (by
        have e : n - k = 0 := by omega
        rw [HN.out, e]
        have : preR vs (numsR b 0 q) = .ok (vs, q) := by simp [numsR, preR]
        rw [this]
        exact ⟨rfl, hg, hb, hK⟩)
      go_wp2_with fail
      go_ret
      exact HP.out
end Go.Proofs.Ytokmbdeafjmcjaa
