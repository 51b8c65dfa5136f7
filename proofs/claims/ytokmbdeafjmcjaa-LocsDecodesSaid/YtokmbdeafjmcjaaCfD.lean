/- What bytes of frame tables are decoded to (plain), and the reader's numbers. -/
import Derived.Test.YtokmbdeafjmcjaaCfE
import Derived.Test.YtokmbdeafjmcjaaLinG
import Derived.Test.YtokmbdeafjmcjaaAtA
namespace Go.Proofs.Ytokmbdeafjmcjaa
open Go.RowKit
set_option linter.unusedVariables false
set_option linter.unusedSimpArgs false

def preR {α : Type} (acc : List α) : Except Int (List α × Int) → Except Int (List α × Int)
  | .error e => .error e
  | .ok (l, p) => .ok (acc ++ l, p)
theorem preR_nil {α : Type} (x : Except Int (List α × Int)) : preR [] x = x := by
  rcases x with e | ⟨l, p⟩
  · rfl
  · rfl
theorem preR_preR {α : Type} (a b : List α) (x : Except Int (List α × Int)) : preR a (preR b x) = preR (a ++ b) x := by
  rcases x with e | ⟨l, p⟩
  · rfl
  · simp [preR]
def numR (b : List UInt8) (p : Int) : Except Int (Int × Int) :=
  if (uintR b p).2.2 ≠ 0 then .error (uintR b p).2.2 else if 1099511627776 < (uintR b p).1 then .error 2 else .ok ((uintR b p).1, (uintR b p).2.1)
def cntR (m : Int) (b : List UInt8) (p : Int) : Except Int (Int × Int) :=
  if (uintR b p).2.2 ≠ 0 then .error (uintR b p).2.2 else if m < (uintR b p).1 then .error 5 else .ok ((uintR b p).1, (uintR b p).2.1)
def numsR (b : List UInt8) : Nat → Int → Except Int (List Int × Int)
  | 0, p => .ok ([], p)
  | n + 1, p => match numR b p with
    | .error e => .error e
    | .ok (v, q) => preR [v] (numsR b n q)
def stepsR (b : List UInt8) : Nat → Int → Int → Except Int (List Stp × Int)
  | 0, _, p => .ok ([], p)
  | n + 1, last, p => match numsR b 2 p with
    | .ok ([a, o], q) => preR [⟨a + last, o⟩] (stepsR b n (a + last) q)
    | .error e => .error e
    | _ => .error 0
def objsR (b : List UInt8) : Nat → Int → Except Int (List Obj × Int)
  | 0, p => .ok ([], p)
  | n + 1, p => match numsR b 4 p with
    | .ok ([c, v, s, u], q) => preR [⟨c, v, s, u⟩] (objsR b n q)
    | .error e => .error e
    | _ => .error 0
def tabR (b : List UInt8) (p : Int) : Except Int (FTab × Int) :=
  match numsR b 2 p with
  | .ok ([lo, hi], p1) => match cntR 8000 b p1 with
    | .error e => .error e
    | .ok (n, p2) => match stepsR b n.toNat lo p2 with
      | .error e => .error e
      | .ok (ss, p3) => match cntR 8000 b p3 with
        | .error e => .error e
        | .ok (m, p4) => match objsR b m.toNat p4 with
          | .error e => .error e
          | .ok (os, p5) => .ok (⟨lo, hi, ss, os⟩, p5)
  | .error e => .error e
  | _ => .error 0
def tabsR (b : List UInt8) : Nat → Int → Except Int (List FTab × Int)
  | 0, p => .ok ([], p)
  | n + 1, p => match tabR b p with
    | .error e => .error e
    | .ok (t, q) => preR [t] (tabsR b n q)
open Classical in
noncomputable def decF (b : List UInt8) : Except Int (List FTab) :=
  if 60000 < b.length then .error 5 else match cntR 8 b 0 with
    | .error e => .error e
    | .ok (n, p) => match tabsR b n.toNat p with
      | .error e => .error e
      | .ok (l, q) => if q < b.length ∨ ¬ RightF l then .error 4 else .ok l
theorem numR_ok {b : List UInt8} {p v q : Int} (h : numR b p = .ok (v, q)) : 0 ≤ v ∧ v ≤ 1099511627776 ∧ q ≤ b.length := by
  unfold numR at h
  split at h
  · cases h
  · rename_i h1
    have h1' : (uintR b p).2.2 = 0 := by simpa using h1
    split at h
    · cases h
    · rename_i h2
      injection h with h
      injection h with h3 h4
      have h5 := uintR_inv h1'
      have h6 := uintR_next h1'
      omega
theorem cntR_ok {m : Int} {b : List UInt8} {p v q : Int} (h : cntR m b p = .ok (v, q)) : 0 ≤ v ∧ v ≤ m ∧ q ≤ b.length := by
  unfold cntR at h
  split at h
  · cases h
  · rename_i h1
    have h1' : (uintR b p).2.2 = 0 := by simpa using h1
    split at h
    · cases h
    · rename_i h2
      injection h with h
      injection h with h3 h4
      have h5 := uintR_inv h1'
      have h6 := uintR_next h1'
      omega
theorem numsR_ok {b : List UInt8} : ∀ {n : Nat} {p q : Int} {vs : List Int}, numsR b n p = .ok (vs, q) → vs.length = n ∧ (∀ v ∈ vs, 0 ≤ v ∧ v ≤ 1099511627776)
  | 0, p, q, vs, h => by
    unfold numsR at h
    injection h with h
    injection h with h1 h2
    subst h1
    simp
  | n + 1, p, q, vs, h => by
    unfold numsR at h
    rcases h1 : numR b p with e | ⟨v, p1⟩
    · rw [h1] at h; cases h
    · rw [h1] at h
      simp only at h
      rcases h2 : numsR b n p1 with e | ⟨ws, p2⟩
      · rw [h2] at h; cases h
      · rw [h2] at h
        simp only [preR] at h
        injection h with h
        injection h with h3 h4
        subst h3
        obtain ⟨h5, h6⟩ := numsR_ok h2
        have h7 := numR_ok h1
        refine ⟨by simp [h5], fun x hx => ?_⟩
        simp only [List.cons_append, List.nil_append, List.mem_cons] at hx
        rcases hx with rfl | hx
        · omega
        · exact h6 x hx
theorem list2 {l : List Int} (h : l.length = 2) : ∃ a c, l = [a, c] := by
  match l, h with
  | [a, c], _ => exact ⟨a, c, rfl⟩
theorem list4 {l : List Int} (h : l.length = 4) : ∃ a c d e, l = [a, c, d, e] := by
  match l, h with
  | [a, c, d, e], _ => exact ⟨a, c, d, e, rfl⟩
/-! the reader -/
def RdPost (gr : Nat) (x : Value) (b : List UInt8) (p : Int) (w : World) (en : Ending) (w' : World) : Prop :=
  en = .returned (.tuple #[.int .i64 (uintR b p).1, .int .i64 (uintR b p).2.2]) ∧ w'.heap[gr]? = some (.cells #[x, .int .i64 (if (uintR b p).2.2 = 0 then (uintR b p).2.1 else p)] 122 (0, 0)) ∧ w.grownBy w' (some gr)
set_option maxHeartbeats 4000000 in
set_option maxRecDepth 100000 in
theorem cfU_any (gr : Nat) (x : Value) (b : List UInt8) (p : Int) (w : World) (hx : InB w x b) (hb : w.heap[gr]? = some (.cells #[x, .int .i64 p] 122 (0, 0))) (hl : b.length ≤ 1000000) :
    Calls Try.prog 100 #[.pointer (some ⟨gr, 0, none⟩)] w (RdPost gr x b p w) := by
  obtain ⟨A, c, rfl, _, _⟩ := id hx
  obtain ⟨n0, hn0⟩ : ∃ n0, n0 = b.length := ⟨_, rfl⟩
  rw [← hn0] at hb ⊢
  have c0 := blk_at hb 0 _ rfl
  have c1 := blk_at hb 1 _ rfl
  have HN0 := Lib.hid hn0
  clear hn0
  obtain ⟨v, next, er, hr⟩ : ∃ v next er, uintR b p = (v, next, er) := ⟨_, _, _, rfl⟩
  unfold RdPost
  rw [hr]
  have HR := Lib.hid hr
  clear hr
  go_enter Try.func100, Try.ntmps100
  go_upto_region 1 with fail
  refine wp_region_X #[true, true, true, true, true, true, true, true, true, true, true, true, true, false, false, false] 13 3 (by kernel_rfl) rfl ?_
  refine wpX_vt 0 (.pointer (some ⟨gr, 0, none⟩)) rfl rfl (by kernel_rfl) (by kernel_rfl) (by kernel_rfl) (fun _ _ _ _ h => h) (by kernel_rfl) rfl (by rfl) (fun W' hW => by
    skip
    go_simp) ?_
  simp only [List.setIfInBounds_toArray, List.set_cons_zero, List.set_cons_succ]
  refine wpX_vt 1 (.pointer (some ⟨gr, 0, none⟩)) rfl rfl (by kernel_rfl) (by kernel_rfl) (by kernel_rfl) (fun _ _ _ _ h => h) (by kernel_rfl) rfl (by rfl) (fun W' hW => by
    skip
    go_simp) ?_
  simp only [List.setIfInBounds_toArray, List.set_cons_zero, List.set_cons_succ]
  refine wpX_vt 2 (.pointer (some ⟨gr, 0, none⟩)) rfl rfl (by kernel_rfl) (by kernel_rfl) (by kernel_rfl) (fun _ _ _ _ h => h) (by kernel_rfl) rfl (by rfl) (fun W' hW => by
    skip
    go_simp) ?_
  simp only [List.setIfInBounds_toArray, List.set_cons_zero, List.set_cons_succ]
  refine wpX_vt 3 (.slice A n0 c) rfl rfl (by kernel_rfl) (by kernel_rfl) (by kernel_rfl) (fun _ _ _ _ h => h) (by kernel_rfl) rfl (by rfl) (fun W' hW => by
    have z := (((Ext.refl w).drew).trans hW).cell c0
    go_simp) ?_
  simp only [List.setIfInBounds_toArray, List.set_cons_zero, List.set_cons_succ]
  refine wpX_vt 4 (.pointer (some ⟨gr, 0, none⟩)) rfl rfl (by kernel_rfl) (by kernel_rfl) (by kernel_rfl) (fun _ _ _ _ h => h) (by kernel_rfl) rfl (by rfl) (fun W' hW => by
    skip
    go_simp) ?_
  simp only [List.setIfInBounds_toArray, List.set_cons_zero, List.set_cons_succ]
  refine wpX_vt 5 (.pointer (some ⟨gr, 0, none⟩)) rfl rfl (by kernel_rfl) (by kernel_rfl) (by kernel_rfl) (fun _ _ _ _ h => h) (by kernel_rfl) rfl (by rfl) (fun W' hW => by
    skip
    go_simp) ?_
  simp only [List.setIfInBounds_toArray, List.set_cons_zero, List.set_cons_succ]
  refine wpX_vt 6 (.pointer (some ⟨gr, 1, none⟩)) rfl rfl (by kernel_rfl) (by kernel_rfl) (by kernel_rfl) (fun _ _ _ _ h => h) (by kernel_rfl) rfl (by rfl) (fun W' hW => by
    skip
    go_simp) ?_
  simp only [List.setIfInBounds_toArray, List.set_cons_zero, List.set_cons_succ]
  refine wpX_vt 7 (.int .i64 p) rfl rfl (by kernel_rfl) (by kernel_rfl) (by kernel_rfl) (fun _ _ _ _ h => h) (by kernel_rfl) rfl (by rfl) (fun W' hW => by
    have z := (((Ext.refl w).drew).trans hW).cell c1
    go_simp) ?_
  simp only [List.setIfInBounds_toArray, List.set_cons_zero, List.set_cons_succ]
  refine wpX_c 8 86 #[.slice A n0 c, .int .i64 p] rfl rfl (by kernel_rfl) rfl rfl (fun W => by go_simp) ?_
  intro W1 hW1
  have hX1 := ((Ext.refl w).drew).trans hW1
  have hx1 : InB W1 (.slice A n0 c) b := by rw [HN0.out]; exact hx.ext hX1
  refine (Uint_any _ b p W1 hx1 (by omega)).mono ?_
  rw [HR.out]
  rintro en w5 ⟨rfl, he5⟩
  refine ⟨_, rfl, he5, ?_⟩
  simp only [List.setIfInBounds_toArray, List.set_cons_zero, List.set_cons_succ]
  refine wpX_vt 9 (.tuple #[.int .i64 v, .int .i64 next, .int .i64 er]) rfl rfl (by kernel_rfl) (by kernel_rfl) (by kernel_rfl) (fun _ _ _ _ h => h) (by kernel_rfl) rfl (by rfl) (fun W' hW => by
    skip
    go_simp) ?_
  simp only [List.setIfInBounds_toArray, List.set_cons_zero, List.set_cons_succ]
  refine wpX_vt 10 (.int .i64 v) rfl rfl (by kernel_rfl) (by kernel_rfl) (by kernel_rfl) (fun _ _ _ _ h => h) (by kernel_rfl) rfl (by rfl) (fun W' hW => by
    skip
    go_simp) ?_
  simp only [List.setIfInBounds_toArray, List.set_cons_zero, List.set_cons_succ]
  refine wpX_l 11 (.int .i64 next) rfl rfl (by kernel_rfl) (by kernel_rfl) (by kernel_rfl) (fun _ _ _ _ h => h) (LateOK_any rfl (by kernel_rfl) (fun _ _ _ h => h)) rfl (by rfl) (fun W' => by go_simp) ?_
  simp only [List.setIfInBounds_toArray, List.set_cons_zero, List.set_cons_succ]
  refine wpX_l 12 (.int .i64 er) rfl rfl (by kernel_rfl) (by kernel_rfl) (by kernel_rfl) (fun _ _ _ _ h => h) (LateOK_any rfl (by kernel_rfl) (fun _ _ _ h => h)) rfl (by rfl) (fun W' => by go_simp) ?_
  simp only [List.setIfInBounds_toArray, List.set_cons_zero, List.set_cons_succ]
  refine wpX_end rfl fun W7 hW7 => tail_seq 13 rfl (by kernel_rfl) ?_
  simp only [List.drop_succ_cons, List.drop_zero]
  have hX7 := (hX1.trans he5).trans hW7
  have hb7 := hX7.heap hb
  have f1 := blk_free hb7 1
  have q1 := blk_at hb7 1 _ rfl
  have hlt := heap_lt hb7
  clear hW1 hX1 hW7 he5 c0 c1 hx1 hb
  go_wp2_with fail
  refine NoPanic.normal ?_
  by_cases h0 : er = 0
  · have e0 : (er == 0) = true := by simpa using h0
    have H0 := Lib.hid h0
    clear h0
    go_wp2_with fail
    refine bodyPost_ret (by simp [results, Try.results100, go_sem]; rfl) rfl ?_
    refine ⟨rfl, ?_, gtrans (Ext.grown0 hX7) (gset _ _ _)⟩
    exact blk_set hb7 1 (.int .i64 next)
  · have e0 : (er == 0) = false := by simpa using h0
    have H0 := Lib.hid h0
    clear h0
    go_wp2_with fail
    refine bodyPost_ret (by simp [results, Try.results100, go_sem]; rfl) rfl ?_
    refine ⟨rfl, ?_, Ext.grown0 hX7⟩
    exact hb7
def CntPost (gr : Nat) (x : Value) (r : Except Int (Int × Int)) (w : World) (en : Ending) (w' : World) : Prop :=
  match r with
  | .error e => (∃ v, en = .returned (.tuple #[.int .i64 v, .int .i64 e])) ∧ e ≠ 0 ∧ w.grownBy w' (some gr)
  | .ok (v, q) => en = .returned (.tuple #[.int .i64 v, .int .i64 0]) ∧ w'.heap[gr]? = some (.cells #[x, .int .i64 q] 122 (0, 0)) ∧ w.grownBy w' (some gr)
set_option maxHeartbeats 4000000 in
set_option maxRecDepth 100000 in
theorem cfCount_any (gr : Nat) (x : Value) (b : List UInt8) (p m : Int) (w : World) (hx : InB w x b) (hb : w.heap[gr]? = some (.cells #[x, .int .i64 p] 122 (0, 0))) (hl : b.length ≤ 1000000) :
    Calls Try.prog 75 #[.pointer (some ⟨gr, 0, none⟩), .int .i64 m] w (CntPost gr x (cntR m b p) w) := by
  have HXX := Lib.hid hx
  have HBB := Lib.hid hb
  clear hx hb
  go_enter Try.func75, Try.ntmps75
  go_wp2_with fail
  refine (cfU_any gr x b p w HXX.out HBB.out hl).mono ?_
  rintro en w2 ⟨rfl, hb2, hg2⟩
  obtain ⟨v, next, er, hr⟩ : ∃ v next er, uintR b p = (v, next, er) := ⟨_, _, _, rfl⟩
  rw [hr] at hb2 ⊢
  dsimp only at hb2 ⊢
  by_cases h0 : er = 0
  case neg =>
    have e0 : (er == 0) = false := by simpa using h0
    have HP : Hid (CntPost gr x (cntR m b p) w (.returned (.tuple #[.int .i64 v, .int .i64 er])) w2) := Lib.hid (by
      unfold cntR
      rw [hr, if_pos (by simpa using h0)]
      exact ⟨⟨v, rfl⟩, h0, hg2⟩)
    clear h0 hr hb2
    go_wp2_with fail
    refine bodyPost_ret (by simp [results, Try.results75, go_sem]; rfl) rfl ?_
    exact HP.out
  have e0 : (er == 0) = true := by simpa using h0
  rw [if_pos h0] at hb2
  subst h0
  clear e0
  have e0 : ((0 : Int) == 0) = true := rfl
  by_cases h1 : m < v
  · have d1 : decide (m < v) = true := by simpa using h1
    have HP : Hid (CntPost gr x (cntR m b p) w (.returned (.tuple #[.int .i64 0, .int .i64 5])) w2) := Lib.hid (by
      unfold cntR
      rw [hr, if_neg (by simp), if_pos h1]
      exact ⟨⟨0, rfl⟩, by omega, hg2⟩)
    clear h1 hr hb2
    go_wp2_with fail
    refine bodyPost_ret (by simp [results, Try.results75, go_sem]; rfl) rfl ?_
    exact HP.out
  · have d1 : decide (m < v) = false := by simpa using h1
    have HP : Hid (CntPost gr x (cntR m b p) w (.returned (.tuple #[.int .i64 v, .int .i64 0])) w2) := Lib.hid (by
      unfold cntR
      rw [hr, if_neg (by simp), if_neg h1]
      exact ⟨rfl, hb2, hg2⟩)
    clear h1 hr hb2
    go_wp2_with fail
    refine bodyPost_ret (by simp [results, Try.results75, go_sem]; rfl) rfl ?_
    exact HP.out
/-! numbers that are written through pointers -/
def ptrs (g n : Nat) : List Value := (List.range n).map fun i => .pointer (some ⟨g, i, none⟩)
def NumsPost (gr g : Nat) (x : Value) (T : TypeId) (C : List Value) (n : Nat) (r : Except Int (List Int × Int)) (w : World) (en : Ending) (w' : World) : Prop :=
  match r with
  | .error e => en = .returned (.int .i64 e) ∧ e ≠ 0 ∧ (∃ vs : List Int, vs.length ≤ n ∧ w'.heap[g]? = some (.cells (vs.map iv ++ C.drop vs.length).toArray T (0, 0))) ∧ Kept w.heap.size [gr, g] w w'
  | .ok (vs, q) => en = .returned (.int .i64 0) ∧ w'.heap[g]? = some (.cells (vs.map iv ++ C.drop n).toArray T (0, 0)) ∧ w'.heap[gr]? = some (.cells #[x, .int .i64 q] 122 (0, 0)) ∧ Kept w.heap.size [gr, g] w w'
theorem set_mid (vs : List Int) (C : List Value) (v : Int) (h : vs.length < C.length) : (vs.map iv ++ C.drop vs.length).set vs.length (.int .i64 v) = (vs ++ [v]).map iv ++ C.drop (vs ++ [v]).length := by
  rw [List.set_append_right _ _ (by simp)]
  simp only [List.length_map, Nat.sub_self, List.map_append, List.map_cons, List.map_nil, List.append_assoc, List.length_append, List.length_cons, List.length_nil]
  rw [List.drop_eq_getElem_cons h]
  rfl
set_option maxHeartbeats 4000000 in
set_option maxRecDepth 100000 in
theorem cfNumbers_any (gr g gy n : Nat) (x : Value) (b : List UInt8) (p : Int) (T : TypeId) (C : List Value) (w : World) (hx : St [gr, g] w (fun W => InB W x b)) (hb : w.heap[gr]? = some (.cells #[x, .int .i64 p] 122 (0, 0)))
    (hg : w.heap[g]? = some (.cells C.toArray T (0, 0))) (hT : T ≠ 122) (hT2 : T ≠ 165) (hn : n ≤ C.length) (hn4 : n ≤ 4) (hy : w.heap[gy]? = some (.cells (ptrs g n).toArray 165 (0, 0))) (hl : b.length ≤ 1000000) :
    Calls Try.prog 101 #[.pointer (some ⟨gr, 0, none⟩), .slice (some ⟨gy, 0, none⟩) n n] w (NumsPost gr g x T C n (numsR b n p) w) := by
  have HXX := Lib.hid hx
  have ngr := blk_ne hg hb hT
  have nyr := blk_ne hy hb (by decide)
  have nyg := blk_ne hy hg (fun e => hT2 e.symm)
  have hgl := heap_lt hg
  have hrl := heap_lt hb
  have HLN := Lib.hid hn
  clear hx hn
  go_enter Try.func101, Try.ntmps101
  go_wp2_with fail
  go_loopw [11] (fun i wr => ∃ (k : Nat) (vs : List Int) (q : Int), k ≤ n ∧ i = .int .i64 (k : Int) ∧ Hid (vs.length = k) ∧ Hid (numsR b n p = preR vs (numsR b (n - k) q)) ∧ wr.heap[g]? = some (.cells (vs.map iv ++ C.drop vs.length).toArray T (0, 0)) ∧ wr.heap[gr]? = some (.cells #[x, .int .i64 q] 122 (0, 0)) ∧ wr.heap[gy]? = some (.cells (ptrs g n).toArray 165 (0, 0)) ∧ Kept w.heap.size [gr, g] w wr) (fun i _ => n - (intOf i).toNat)
  case atStart => exact ⟨0, [], p, by omega, rfl, Lib.hid rfl, Lib.hid (by rw [preR_nil, Nat.sub_zero]), by simpa using hg, hb, hy, Kept.refl _ _ _⟩
  case round =>
    clear hg hb hy
    obtain ⟨k, vs, q, hk, rfl, HK, HN, hg, hb, hy, hK⟩ := hrel
    obtain ⟨wo, rfl⟩ : ∃ W : World, W = wr := ⟨_, rfl⟩
    by_cases hlt : k < n
    · have hik : (k : Int) < (n : Int) := by omega
      have hcell : wo.cell? ⟨gy, k, none⟩ = some (.pointer (some ⟨g, k, none⟩)) := blk_at hy k _ (by
        rw [List.getElem?_toArray, ptrs, List.getElem?_map, List.getElem?_range hlt]; rfl)
      have HSN : Hid (n - k = (n - (k + 1)) + 1) := Lib.hid (by omega)
      go_wp2_with fail
      refine (cfU_any gr x b q wo (HXX.out wo hK) hb hl).mono ?_
      rintro en w2 ⟨rfl, hb2, hg2⟩
      obtain ⟨v, next, er, hr⟩ : ∃ v next er, uintR b q = (v, next, er) := ⟨_, _, _, rfl⟩
      rw [hr] at hb2 ⊢
      dsimp only at hb2 ⊢
      have hgg := blk_grown hg hg2 (fun e => ngr (by cases e; rfl))
      have hyy := blk_grown hy hg2 (fun e => nyr (by cases e; rfl))
      have hK2 := hK.trans (Kept.of_grown hg2 hK.size (fun k e => by cases e; exact .inr (by simp)))
      clear hcell hb hg hy hg2 hK
      by_cases h0 : er = 0
      case neg =>
        have e0 : (er != 0) = true := by simpa using h0
        have HP : Hid (NumsPost gr g x T C n (numsR b n p) w (.returned (.int .i64 er)) w2) := Lib.hid (by
          rw [HN.out, HSN.out]
          have : numsR b (n - (k + 1) + 1) q = .error er := by
            unfold numsR numR
            rw [hr, if_pos (by simpa using h0)]
          rw [this]
          exact ⟨rfl, h0, ⟨vs, by have := HK.out; omega, hgg⟩, hK2⟩)
        clear h0 hr hb2
        go_wp2_with fail
        go_ret
        exact HP.out
      rw [if_pos h0] at hb2
      subst h0
      have e0 : ((0 : Int) != 0) = false := rfl
      by_cases h1 : 1099511627776 < v
      · have d1 : decide (1099511627776 < v) = true := by simpa using h1
        have HP : Hid (NumsPost gr g x T C n (numsR b n p) w (.returned (.int .i64 2)) w2) := Lib.hid (by
          rw [HN.out, HSN.out]
          have : numsR b (n - (k + 1) + 1) q = .error 2 := by
            unfold numsR numR
            rw [hr, if_neg (by simp), if_pos h1]
          rw [this]
          exact ⟨rfl, by omega, ⟨vs, by have := HK.out; omega, hgg⟩, hK2⟩)
        clear h1 hr hb2
        go_wp2_with fail
        go_ret
        exact HP.out
      · have d1 : decide (1099511627776 < v) = false := by simpa using h1
        have HN2 : Hid (numsR b n p = preR (vs ++ [v]) (numsR b (n - (k + 1)) next)) := Lib.hid (by
          rw [HN.out, HSN.out]
          have : numsR b (n - (k + 1) + 1) q = preR [v] (numsR b (n - (k + 1)) next) := by
            conv => lhs; unfold numsR numR
            rw [hr, if_neg (by simp), if_neg h1]
          rw [this, preR_preR])
        have hvc : vs.length < C.length := by have := HK.out; have := HLN.out; omega
        obtain ⟨cv, hcv⟩ : ∃ cv, (vs.map iv ++ C.drop vs.length)[k]? = some cv := by
          have : k < (vs.map iv ++ C.drop vs.length).length := by have := HK.out; rw [List.length_append, List.length_map, List.length_drop]; omega
          exact ⟨_, List.getElem?_eq_getElem this⟩
        have q1 : w2.cell? ⟨g, k, none⟩ = some cv := blk_at hgg k _ (by rw [List.getElem?_toArray]; exact hcv)
        have f1 := blk_free hgg k
        have hlt1 := heap_lt hgg
        have s1 := gset w2 ⟨g, k, none⟩ (.int .i64 v)
        have hg3 : (w2.setCell ⟨g, k, none⟩ (.int .i64 v)).heap[g]? = some (.cells ((vs ++ [v]).map iv ++ C.drop (vs ++ [v]).length).toArray T (0, 0)) := by
          have h := blk_set hgg k (.int .i64 v)
          rw [← set_mid vs C v hvc]
          rw [h]
          simp [HK.out]
        have hb3 := blk_grown hb2 s1 (fun e => ngr (by cases e; rfl))
        have hy3 := blk_grown hyy s1 (fun e => nyg (by cases e; rfl))
        have hK3 := hK2.trans (Kept.of_grown s1 hK2.size (fun k e => by cases e; exact .inr (by simp)))
        have HK3 : Hid ((vs ++ [v]).length = k + 1) := Lib.hid (by rw [List.length_append, HK.out]; rfl)
        clear h1 hr hb2 hgg hyy s1 hK2 hvc hcv
        go_wp2_with fail
        go_roundw
        case rel => exact ⟨k + 1, vs ++ [v], next, by omega, by first | (with_reducible rfl) | go_num, HK3, HN2, hg3, hb3, hy3, hK3⟩
        case measure => simp [intOf]; omega
    · have hik : ¬ (k : Int) < (n : Int) := by omega
      have HP : Hid (NumsPost gr g x T C n (numsR b n p) w (.returned (.int .i64 0)) wo) := Lib.hid (by
        have e : n - k = 0 := by omega
        rw [HN.out, e]
        have : preR vs (numsR b 0 q) = .ok (vs, q) := by simp [numsR, preR]
        rw [this]
        have e2 : vs.length = n := by have := HK.out; omega
        rw [e2] at hg
        exact ⟨rfl, hg, hb, hK⟩)
      go_wp2_with fail
      go_ret
      exact HP.out
end Go.Proofs.Ytokmbdeafjmcjaa
