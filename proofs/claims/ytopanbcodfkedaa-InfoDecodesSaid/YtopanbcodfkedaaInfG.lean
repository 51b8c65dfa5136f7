/- What bytes of the tree are decoded to (plain); the reader's numbers. -/
import Derived.Test.YtopanbcodfkedaaInfE
namespace Go.Proofs.Ytopanbcodfkedaa
open Go.RowKit
set_option linter.unusedVariables false
set_option linter.unusedSimpArgs false

/-- a shape that is read -/
structure Shp where
  tag : Int
  kids : Bool
  attrs : List Att
def betR (lo hi wrong : Int) (b : List UInt8) (p : Int) : Except Int (Int × Int) :=
  if (uintR b p).2.2 ≠ 0 then .error (uintR b p).2.2 else if (uintR b p).1 < lo ∨ hi < (uintR b p).1 then .error wrong else .ok ((uintR b p).1, (uintR b p).2.1)
def attD (l : List Att) (b : List UInt8) (p : Int) : Except Int (Att × Int) :=
  match betR 1 63 4 b p with
  | .error e => .error e
  | .ok (nm, q) => if seenA l nm then .error 9 else match betR 1 4 4 b q with
    | .error e => .error e
    | .ok (f, q2) => .ok (⟨nm, f, 0, ByteArray.empty⟩, q2)
def attsD (b : List UInt8) : Nat → List Att → Int → Except Int (List Att × Int)
  | 0, l, p => .ok (l, p)
  | n + 1, l, p => match attD l b p with
    | .error e => .error e
    | .ok (a, q) => attsD b n (l ++ [a]) q
def abbD (b : List UInt8) (p : Int) : Except Int (Shp × Int) :=
  match betR 1 63 4 b p with
  | .error e => .error e
  | .ok (t, p1) => match betR 0 1 4 b p1 with
    | .error e => .error e
    | .ok (k, p2) => match betR 0 12 5 b p2 with
      | .error e => .error e
      | .ok (n, p3) => match attsD b n.toNat [] p3 with
        | .error e => .error e
        | .ok (l, q) => .ok (⟨t, k == 1, l⟩, q)
def shpsD (b : List UInt8) : Nat → List Shp → Int → Except Int (List Shp)
  | n, S, p => if ¬ p < b.length then .ok S else match n with
    | 0 => .error 5
    | n + 1 => match abbD b p with
      | .error e => .error e
      | .ok (s, q) => shpsD b n (S ++ [s]) q
/-- an attribute's value; the form is from 1 to 4 -/
def valD (a : Att) (b : List UInt8) (p : Int) : Except Int (Att × Int) :=
  if a.form = 1 then (match betR 0 1099511627776 2 b p with
    | .error e => .error e
    | .ok (v, q) => .ok (⟨a.name, a.form, v, a.text⟩, q))
  else if a.form = 2 then (if (intR b p).2.2 ≠ 0 then .error (intR b p).2.2 else .ok (⟨a.name, a.form, (intR b p).1, a.text⟩, (intR b p).2.1))
  else if a.form = 3 then (if 40 < (textR b p).1.length then .error 5 else if (textR b p).2.2 ≠ 0 then .error (textR b p).2.2 else .ok (⟨a.name, a.form, a.value, ⟨(textR b p).1.toArray⟩⟩, (textR b p).2.1))
  else .ok (⟨a.name, a.form, 1, a.text⟩, p)
def valsD (b : List UInt8) : List Att → List Att → Int → Except Int (List Att × Int)
  | [], l, p => .ok (l, p)
  | a :: r, l, p => match valD a b p with
    | .error e => .error e
    | .ok (x, q) => valsD b r (l ++ [x]) q
def treeD (S : List Shp) (b : List UInt8) : Nat → List Ent → Int → Bool → Int → Except Int (List Ent × Int)
  | 0, _, _, _, _ => .error 3
  | f + 1, l, d, ch, p =>
    if (uintR b p).2.2 ≠ 0 then .error (uintR b p).2.2
    else if (uintR b p).1 = 0 then (if l = [] ∨ ch = true then .error 4 else if d - 1 = 0 then .ok (l, (uintR b p).2.1) else treeD S b f l (d - 1) ch (uintR b p).2.1)
    else match S[((uintR b p).1 - 1).toNat]? with
      | none => .error 12
      | some s => if l.length = 4000 ∨ 32 < d then .error 5 else match valsD b s.attrs [] (uintR b p).2.1 with
        | .error e => .error e
        | .ok (vs, q) => if (if s.kids then d + 1 else d) = 0 then .ok (l ++ [⟨d, s.tag, vs⟩], q) else treeD S b f (l ++ [⟨d, s.tag, vs⟩]) (if s.kids then d + 1 else d) s.kids q
def decD (a b : List UInt8) : Except Int (List Ent) :=
  if 60000 < a.length ∨ 60000 < b.length then .error 5 else match shpsD a 200 [] 0 with
    | .error e => .error e
    | .ok S => match treeD S b (b.length + 1) [] 0 false 0 with
      | .error e => .error e
      | .ok (l, q) => if q < b.length then .error 4 else .ok l
/-! the reader -/
def InUPost (gr : Nat) (x : Value) (C : List Value) (T : TypeId) (b : List UInt8) (p : Int) (w : World) (en : Ending) (w' : World) : Prop :=
  en = .returned (.tuple #[.int .i64 (uintR b p).1, .int .i64 (uintR b p).2.2]) ∧ w'.heap[gr]? = some (.cells (x :: .int .i64 (if (uintR b p).2.2 = 0 then (uintR b p).2.1 else p) :: C).toArray T (0, 0)) ∧ w.grownBy w' (some gr)
set_option maxHeartbeats 4000000 in
set_option maxRecDepth 100000 in
theorem inU_any (gr : Nat) (T : TypeId) (C : List Value) (x : Value) (b : List UInt8) (p : Int) (w : World) (hx : InB w x b) (hb : w.heap[gr]? = some (.cells (x :: .int .i64 p :: C).toArray T (0, 0))) (hl : b.length ≤ 1000000) :
    Calls Try.prog 52 #[.pointer (some ⟨gr, 0, none⟩)] w (InUPost gr x C T b p w) := by
  obtain ⟨A, c, rfl, _, _⟩ := id hx
  obtain ⟨n0, hn0⟩ : ∃ n0, n0 = b.length := ⟨_, rfl⟩
  rw [← hn0] at hb ⊢
  have c0 := blk_at hb 0 _ rfl
  have c1 := blk_at hb 1 _ rfl
  have HN0 := Lib.hid hn0
  clear hn0
  obtain ⟨v, next, er, hr⟩ : ∃ v next er, uintR b p = (v, next, er) := ⟨_, _, _, rfl⟩
  have HR := Lib.hid hr
  clear hr
  go_enter Try.func52, Try.ntmps52
  go_upto_region 1 with fail
  refine wp_region_X #[true, true, true, true, true, true, true, true, true, true, true, true, true, false, false, false] 13 3 (by kernel_rfl) rfl ?_
  refine wpX_vt 0 (.pointer (some ⟨gr, 0, none⟩)) rfl rfl (by kernel_rfl) (by kernel_rfl) (by kernel_rfl) (fun _ _ _ _ h => h) (by kernel_rfl) rfl (by rfl) (fun W' hW => by
    skip
    go_simp) ?_
  simp only [List.setIfInBounds_toArray, List.set_cons_zero, List.set_cons_succ]
  refine wpX_vt 1 (.pointer (some ⟨gr, 0, none⟩)) rfl rfl (by kernel_rfl) (by kernel_rfl) (by kernel_rfl) (fun _ _ _ _ h => h) (by kernel_rfl) rfl (by rfl) (fun W' hW => by
    skip
    go_simp) ?_
  simp only [List.setIfInBounds_toArray, List.set_cons_zero, List.set_cons_succ]
  refine wpX_vt 2 (.pointer (some ⟨gr, 0, none⟩)) rfl rfl (by kernel_rfl) (by kernel_rfl) (by kernel_rfl) (fun _ _ _ _ h => h) (by kernel_rfl) rfl (by rfl) (fun W' hW => by
    skip
    go_simp) ?_
  simp only [List.setIfInBounds_toArray, List.set_cons_zero, List.set_cons_succ]
  refine wpX_vt 3 (.slice A n0 c) rfl rfl (by kernel_rfl) (by kernel_rfl) (by kernel_rfl) (fun _ _ _ _ h => h) (by kernel_rfl) rfl (by rfl) (fun W' hW => by
    have z := (((Ext.refl w).drew).trans hW).cell c0
    go_simp) ?_
  simp only [List.setIfInBounds_toArray, List.set_cons_zero, List.set_cons_succ]
  refine wpX_vt 4 (.pointer (some ⟨gr, 0, none⟩)) rfl rfl (by kernel_rfl) (by kernel_rfl) (by kernel_rfl) (fun _ _ _ _ h => h) (by kernel_rfl) rfl (by rfl) (fun W' hW => by
    skip
    go_simp) ?_
  simp only [List.setIfInBounds_toArray, List.set_cons_zero, List.set_cons_succ]
  refine wpX_vt 5 (.pointer (some ⟨gr, 0, none⟩)) rfl rfl (by kernel_rfl) (by kernel_rfl) (by kernel_rfl) (fun _ _ _ _ h => h) (by kernel_rfl) rfl (by rfl) (fun W' hW => by
    skip
    go_simp) ?_
  simp only [List.setIfInBounds_toArray, List.set_cons_zero, List.set_cons_succ]
  refine wpX_vt 6 (.pointer (some ⟨gr, 1, none⟩)) rfl rfl (by kernel_rfl) (by kernel_rfl) (by kernel_rfl) (fun _ _ _ _ h => h) (by kernel_rfl) rfl (by rfl) (fun W' hW => by
    skip
    go_simp) ?_
  simp only [List.setIfInBounds_toArray, List.set_cons_zero, List.set_cons_succ]
  refine wpX_vt 7 (.int .i64 p) rfl rfl (by kernel_rfl) (by kernel_rfl) (by kernel_rfl) (fun _ _ _ _ h => h) (by kernel_rfl) rfl (by rfl) (fun W' hW => by
    have z := (((Ext.refl w).drew).trans hW).cell c1
    go_simp) ?_
  simp only [List.setIfInBounds_toArray, List.set_cons_zero, List.set_cons_succ]
  refine wpX_c 8 57 #[.slice A n0 c, .int .i64 p] rfl rfl (by kernel_rfl) rfl rfl (fun W => by go_simp) ?_
  intro W1 hW1
  have hX1 := ((Ext.refl w).drew).trans hW1
  have hx1 : InB W1 (.slice A n0 c) b := by rw [HN0.out]; exact hx.ext hX1
  refine (Uint_any _ b p W1 hx1 (by omega)).mono ?_
  rw [HR.out]
  rintro en w5 ⟨rfl, he5⟩
  refine ⟨_, rfl, he5, ?_⟩
  simp only [List.setIfInBounds_toArray, List.set_cons_zero, List.set_cons_succ]
  refine wpX_vt 9 (.tuple #[.int .i64 v, .int .i64 next, .int .i64 er]) rfl rfl (by kernel_rfl) (by kernel_rfl) (by kernel_rfl) (fun _ _ _ _ h => h) (by kernel_rfl) rfl (by rfl) (fun W' hW => by
    skip
    go_simp) ?_
  simp only [List.setIfInBounds_toArray, List.set_cons_zero, List.set_cons_succ]
  refine wpX_vt 10 (.int .i64 v) rfl rfl (by kernel_rfl) (by kernel_rfl) (by kernel_rfl) (fun _ _ _ _ h => h) (by kernel_rfl) rfl (by rfl) (fun W' hW => by
    skip
    go_simp) ?_
  simp only [List.setIfInBounds_toArray, List.set_cons_zero, List.set_cons_succ]
  refine wpX_l 11 (.int .i64 next) rfl rfl (by kernel_rfl) (by kernel_rfl) (by kernel_rfl) (fun _ _ _ _ h => h) (LateOK_any rfl (by kernel_rfl) (fun _ _ _ h => h)) rfl (by rfl) (fun W' => by go_simp) ?_
  simp only [List.setIfInBounds_toArray, List.set_cons_zero, List.set_cons_succ]
  refine wpX_l 12 (.int .i64 er) rfl rfl (by kernel_rfl) (by kernel_rfl) (by kernel_rfl) (fun _ _ _ _ h => h) (LateOK_any rfl (by kernel_rfl) (fun _ _ _ h => h)) rfl (by rfl) (fun W' => by go_simp) ?_
  simp only [List.setIfInBounds_toArray, List.set_cons_zero, List.set_cons_succ]
  refine wpX_end rfl fun W7 hW7 => tail_seq 13 rfl (by kernel_rfl) ?_
  simp only [List.drop_succ_cons, List.drop_zero]
  have hX7 := (hX1.trans he5).trans hW7
  have hb7 := hX7.heap hb
  have f1 := blk_free hb7 1
  have q1 := blk_at hb7 1 _ rfl
  have hlt := heap_lt hb7
  clear hW1 hX1 hW7 he5 c0 c1 hx1 hb
  go_wp2_with fail
  refine NoPanic.normal ?_
  by_cases h0 : er = 0
  · have e0 : (er == 0) = true := by simpa using h0
    have HZ : Hid ((if er = 0 then next else p) = next) := Lib.hid (if_pos h0)
    have hs := blk_set hb7 1 (.int .i64 next)
    clear h0
    go_wp2_with fail
    refine bodyPost_ret (by simp [results, Try.results52, go_sem]; rfl) rfl ?_
    unfold InUPost
    rw [HR.out]
    refine ⟨rfl, ?_, gtrans (hX7.grownBy _) (gset _ _ _)⟩
    simp only
    rw [HZ.out]
    simpa using hs
  · have e0 : (er == 0) = false := by simpa using h0
    have HZ : Hid ((if er = 0 then next else p) = p) := Lib.hid (if_neg h0)
    clear h0
    go_wp2_with fail
    refine bodyPost_ret (by simp [results, Try.results52, go_sem]; rfl) rfl ?_
    unfold InUPost
    rw [HR.out]
    refine ⟨rfl, ?_, hX7.grownBy _⟩
    simp only
    rw [HZ.out]
    exact hb7
def BetPost (gr : Nat) (x : Value) (C : List Value) (T : TypeId) (r : Except Int (Int × Int)) (w : World) (en : Ending) (w' : World) : Prop :=
  match r with
  | .error e => (∃ v, en = .returned (.tuple #[.int .i64 v, .int .i64 e])) ∧ e ≠ 0 ∧ w.grownBy w' (some gr)
  | .ok (v, q) => en = .returned (.tuple #[.int .i64 v, .int .i64 0]) ∧ w'.heap[gr]? = some (.cells (x :: .int .i64 q :: C).toArray T (0, 0)) ∧ w.grownBy w' (some gr)
theorem betR_ok {lo hi wr : Int} {b : List UInt8} {p v q : Int} (h : betR lo hi wr b p = .ok (v, q)) : (lo ≤ v ∧ v ≤ hi) ∧ 0 ≤ p ∧ p < q ∧ q ≤ b.length := by
  unfold betR at h
  split at h
  · cases h
  · rename_i h1
    have h1' : (uintR b p).2.2 = 0 := by simpa using h1
    split at h
    · cases h
    · injection h with h
      injection h with h3 h4
      have h6 := uintR_next h1'
      omega
set_option maxHeartbeats 4000000 in
set_option maxRecDepth 100000 in
theorem inBet_any (gr : Nat) (T : TypeId) (C : List Value) (x : Value) (b : List UInt8) (p lo hi wr : Int) (w : World) (hx : InB w x b) (hb : w.heap[gr]? = some (.cells (x :: .int .i64 p :: C).toArray T (0, 0))) (hl : b.length ≤ 1000000) (hw : wr ≠ 0) :
    Calls Try.prog 51 #[.pointer (some ⟨gr, 0, none⟩), .int .i64 lo, .int .i64 hi, .int .i64 wr] w (BetPost gr x C T (betR lo hi wr b p) w) := by
  have HXX := Lib.hid hx
  have HBB := Lib.hid hb
  have HW := Lib.hid hw
  clear hx hb hw
  go_enter Try.func51, Try.ntmps51
  go_wp2_with fail
  refine (inU_any gr T C x b p w HXX.out HBB.out hl).mono ?_
  rintro en w2 ⟨rfl, hb2, hg2⟩
  obtain ⟨v, next, er, hr⟩ : ∃ v next er, uintR b p = (v, next, er) := ⟨_, _, _, rfl⟩
  rw [hr] at hb2 ⊢
  dsimp only at hb2 ⊢
  by_cases h0 : er = 0
  case neg =>
    have e0 : (er == 0) = false := by simpa using h0
    have HP : Hid (BetPost gr x C T (betR lo hi wr b p) w (.returned (.tuple #[.int .i64 v, .int .i64 er])) w2) := Lib.hid (by
      unfold betR
      rw [hr, if_pos (by simpa using h0)]
      exact ⟨⟨v, rfl⟩, h0, hg2⟩)
    clear h0 hr hb2
    go_wp2_with fail
    refine bodyPost_ret (by simp [results, Try.results51, go_sem]; rfl) rfl ?_
    exact HP.out
  have e0 : (er == 0) = true := by simpa using h0
  rw [if_pos h0] at hb2
  by_cases h1 : v < lo
  case pos =>
    have d1 : decide (v < lo) = true := by simpa using h1
    have HP : Hid (BetPost gr x C T (betR lo hi wr b p) w (.returned (.tuple #[.int .i64 0, .int .i64 wr])) w2) := Lib.hid (by
      unfold betR
      rw [hr, if_neg (by simpa using h0), if_pos (.inl h1)]
      exact ⟨⟨0, rfl⟩, HW.out, hg2⟩)
    clear h1
    clear h0 hr hb2
    go_wp2_with fail
    refine bodyPost_ret (by simp [results, Try.results51, go_sem]; rfl) rfl ?_
    exact HP.out
  have d1 : decide (v < lo) = false := by simpa using h1
  by_cases h2 : hi < v
  case pos =>
    have d2 : decide (hi < v) = true := by simpa using h2
    have HP : Hid (BetPost gr x C T (betR lo hi wr b p) w (.returned (.tuple #[.int .i64 0, .int .i64 wr])) w2) := Lib.hid (by
      unfold betR
      rw [hr, if_neg (by simpa using h0), if_pos (.inr h2)]
      exact ⟨⟨0, rfl⟩, HW.out, hg2⟩)
    clear h1 h2
    clear h0 hr hb2
    go_wp2_with fail
    refine bodyPost_ret (by simp [results, Try.results51, go_sem]; rfl) rfl ?_
    exact HP.out
  have d2 : decide (hi < v) = false := by simpa using h2
  have HP : Hid (BetPost gr x C T (betR lo hi wr b p) w (.returned (.tuple #[.int .i64 v, .int .i64 er])) w2) := Lib.hid (by
    unfold betR
    rw [hr, if_neg (by simpa using h0), if_neg (by simp only; omega)]
    simp only
    rw [h0]
    exact ⟨rfl, hb2, hg2⟩)
  clear h1 h2
  clear h0 hr hb2
  go_wp2_with fail
  refine bodyPost_ret (by simp [results, Try.results51, go_sem]; rfl) rfl ?_
  exact HP.out
end Go.Proofs.Ytopanbcodfkedaa
