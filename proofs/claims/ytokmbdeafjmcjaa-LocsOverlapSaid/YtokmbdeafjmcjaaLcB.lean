/- Small functions of package locs: places, comparisons, pieces. -/
import Derived.Test.YtokmbdeafjmcjaaLcA
namespace Go.Proofs.Ytokmbdeafjmcjaa
open Go.RowKit
set_option linter.unusedVariables false
set_option linter.unusedSimpArgs false

def IffB (b : Bool) (P : Prop) : Prop := b = false ↔ P
def IffI (i : Int) (P : Prop) : Prop := ¬ 0 ≤ i ↔ P
def WrongPost (P : Prop) (w : World) (en : Ending) (w' : World) : Prop := ∃ b : Bool, en = .returned (.bool b) ∧ IffB b P ∧ Ext w w'
set_option maxHeartbeats 4000000 in
set_option maxRecDepth 100000 in
theorem wrongPlace_any (p : Plc) (w : World) : Calls Try.prog 93 #[.agg #[.int .i64 p.kind, .int .i64 p.n, .int .i64 p.add]] w (WrongPost (okPlc p) w) := by
  go_enter Try.func93, Try.ntmps93
  go_upto_region 1 with fail
  obtain ⟨W, hW, hE, hB⟩ : ∃ W, W = w.alloc (.cells #[.int .i64 p.kind, .int .i64 p.n, .int .i64 p.add] 75) ∧ Ext w W ∧ W.heap[w.heap.size]? = some (.cells #[.int .i64 p.kind, .int .i64 p.n, .int .i64 p.add] 75 (0, 0)) := ⟨_, rfl, (Ext.refl w).alloc _, heap_alloc_new w _⟩
  rw [← hW]
  clear hW
  obtain ⟨q0, q1, q2⟩ := blkT hB
  obtain ⟨K, hK⟩ : ∃ K, K = p.kind := ⟨_, rfl⟩
  rw [← hK] at q0
  have HK := Lib.hid hK
  clear hK
  by_cases h1 : K = 1
  case pos =>
    have e1 : (K == 1) = true := by simpa using h1
    have HP : Hid (IffB (p.n != 0) (okPlc p)) := Lib.hid (by have := HK.out; unfold IffB okPlc; simp only [bne_eq_false_iff_eq]; omega)
    clear h1
    go_wp2_with fail
    refine bodyPost_ret (by simp [results, Try.results93, go_sem]; rfl) rfl ?_
    exact ⟨_, rfl, HP.out, hE⟩
  have e1 : (K == 1) = false := by simpa using h1
  have HR : Hid ((K = 2 ∨ K = 4) → ((0 ≤ p.n ∧ p.n ≤ 15) ↔ okPlc p)) := Lib.hid (fun h => by have := HK.out; unfold okPlc; omega)
  have H3 : Hid (K = 3 → ((0 ≤ p.n ∧ p.n ≤ 4095) ↔ okPlc p)) := Lib.hid (fun h => by have := HK.out; unfold okPlc; omega)
  have HN : Hid (¬ (K = 2 ∨ K = 4) → ¬ K = 3 → ¬ okPlc p) := Lib.hid (fun h h' => by have := HK.out; unfold okPlc; omega)
  clear h1
  by_cases h2 : K = 2
  case pos =>
    have e2 : (K == 2) = true := by simpa using h2
    have HQ := Lib.hid (HR.out (.inl h2))
    clear h2
    by_cases n1 : p.n < 0
    case pos =>
      have d1 : decide (p.n < 0) = true := by simpa using n1
      have HP : Hid (IffB true (okPlc p)) := Lib.hid ⟨fun h => (by cases h), fun h => by have := HQ.out.2 h; omega⟩
      go_wp2_with fail
      refine bodyPost_ret (by simp [results, Try.results93, go_sem]; rfl) rfl ?_
      exact ⟨true, rfl, HP.out, hE⟩
    have d1 : decide (p.n < 0) = false := by simpa using n1
    by_cases n2 : 16 ≤ p.n
    case pos =>
      have d2 : decide (16 ≤ p.n) = true := by simpa using n2
      have HP : Hid (IffB true (okPlc p)) := Lib.hid ⟨fun h => (by cases h), fun h => by have := HQ.out.2 h; omega⟩
      go_wp2_with fail
      refine bodyPost_ret (by simp [results, Try.results93, go_sem]; rfl) rfl ?_
      exact ⟨true, rfl, HP.out, hE⟩
    have d2 : decide (16 ≤ p.n) = false := by simpa using n2
    have HP : Hid (IffB false (okPlc p)) := Lib.hid ⟨fun _ => HQ.out.1 (by omega), fun _ => rfl⟩
    go_wp2_with fail
    refine bodyPost_ret (by simp [results, Try.results93, go_sem]; rfl) rfl ?_
    exact ⟨false, rfl, HP.out, hE⟩
  have e2 : (K == 2) = false := by simpa using h2
  by_cases h4 : K = 4
  case pos =>
    have e4 : (K == 4) = true := by simpa using h4
    have HQ := Lib.hid (HR.out (.inr h4))
    clear h4 h2
    by_cases n1 : p.n < 0
    case pos =>
      have d1 : decide (p.n < 0) = true := by simpa using n1
      have HP : Hid (IffB true (okPlc p)) := Lib.hid ⟨fun h => (by cases h), fun h => by have := HQ.out.2 h; omega⟩
      go_wp2_with fail
      refine bodyPost_ret (by simp [results, Try.results93, go_sem]; rfl) rfl ?_
      exact ⟨true, rfl, HP.out, hE⟩
    have d1 : decide (p.n < 0) = false := by simpa using n1
    by_cases n2 : 16 ≤ p.n
    case pos =>
      have d2 : decide (16 ≤ p.n) = true := by simpa using n2
      have HP : Hid (IffB true (okPlc p)) := Lib.hid ⟨fun h => (by cases h), fun h => by have := HQ.out.2 h; omega⟩
      go_wp2_with fail
      refine bodyPost_ret (by simp [results, Try.results93, go_sem]; rfl) rfl ?_
      exact ⟨true, rfl, HP.out, hE⟩
    have d2 : decide (16 ≤ p.n) = false := by simpa using n2
    have HP : Hid (IffB false (okPlc p)) := Lib.hid ⟨fun _ => HQ.out.1 (by omega), fun _ => rfl⟩
    go_wp2_with fail
    refine bodyPost_ret (by simp [results, Try.results93, go_sem]; rfl) rfl ?_
    exact ⟨false, rfl, HP.out, hE⟩
  have e4 : (K == 4) = false := by simpa using h4
  by_cases h3 : K = 3
  case pos =>
    have e3 : (K == 3) = true := by simpa using h3
    have HQ := Lib.hid (H3.out h3)
    clear h3 h2 h4
    by_cases n1 : p.n < 0
    case pos =>
      have d1 : decide (p.n < 0) = true := by simpa using n1
      have HP : Hid (IffB true (okPlc p)) := Lib.hid ⟨fun h => (by cases h), fun h => by have := HQ.out.2 h; omega⟩
      go_wp2_with fail
      refine bodyPost_ret (by simp [results, Try.results93, go_sem]; rfl) rfl ?_
      exact ⟨true, rfl, HP.out, hE⟩
    have d1 : decide (p.n < 0) = false := by simpa using n1
    by_cases n2 : 4095 < p.n
    case pos =>
      have d2 : decide (4095 < p.n) = true := by simpa using n2
      have HP : Hid (IffB true (okPlc p)) := Lib.hid ⟨fun h => (by cases h), fun h => by have := HQ.out.2 h; omega⟩
      go_wp2_with fail
      refine bodyPost_ret (by simp [results, Try.results93, go_sem]; rfl) rfl ?_
      exact ⟨true, rfl, HP.out, hE⟩
    have d2 : decide (4095 < p.n) = false := by simpa using n2
    have HP : Hid (IffB false (okPlc p)) := Lib.hid ⟨fun _ => HQ.out.1 (by omega), fun _ => rfl⟩
    go_wp2_with fail
    refine bodyPost_ret (by simp [results, Try.results93, go_sem]; rfl) rfl ?_
    exact ⟨false, rfl, HP.out, hE⟩
  have e3 : (K == 3) = false := by simpa using h3
  have HP : Hid (IffB true (okPlc p)) := Lib.hid ⟨fun h => (by cases h), fun h => absurd h (HN.out (by omega) h3)⟩
  clear h2 h3 h4
  go_wp2_with fail
  refine bodyPost_ret (by simp [results, Try.results93, go_sem]; rfl) rfl ?_
  exact ⟨true, rfl, HP.out, hE⟩
def IdxPost (l : List Plc) (w : World) (en : Ending) (w' : World) : Prop := ∃ i : Int, en = .returned (.int .i64 i) ∧ IffI i (∀ p ∈ l, okPlc p) ∧ Ext w w'
set_option maxHeartbeats 4000000 in
set_option maxRecDepth 100000 in
theorem indexWrong_any (x : Value) (l : List Plc) (w : World) (hx : InR plcCells w x l) (hl : l.length ≤ 9223372036854775807) : Calls Try.prog 109 #[x, .func (.func 93) #[] #[]] w (IdxPost l w) := by
  obtain ⟨A, c, rfl, _, _⟩ := id hx
  have HX := Lib.hid hx
  clear hx
  go_enter Try.func109, Try.ntmps109
  go_wp2_with fail
  go_loopw [8] (fun i wr => ∃ (j : Nat), j ≤ l.length ∧ i = .int .i64 (j : Int) ∧ Hid (∀ p ∈ l.take j, okPlc p) ∧ Ext w wr) (fun i _ => l.length - (intOf i).toNat)
  case atStart => exact ⟨0, by omega, rfl, Lib.hid (by simp), Ext.refl _⟩
  case round =>
    obtain ⟨j, hj, rfl, HA, hX⟩ := hrel
    obtain ⟨wo, rfl⟩ : ∃ W : World, W = wr := ⟨_, rfl⟩
    by_cases hlt : j < l.length
    · have hij : (j : Int) < (l.length : Int) := by omega
      obtain ⟨bb, oo, rfl, hra⟩ := (HX.out.ext hX).at_ (k := 3) (fun _ _ => rfl) (by omega) hlt
      have HTK := Lib.hid (List.take_succ_eq_append_getElem hlt)
      have HMM := Lib.hid (List.getElem_mem hlt)
      generalize l[j] = p at *
      have hld := plc_load hra
      go_wp2_with first | refine wpList_load_run rfl 75 (.tmp 14) rfl _ _ rfl hld ?_
      refine (wrongPlace_any p wo).mono ?_
      rintro en w2 ⟨b, rfl, hb, hx2⟩
      have hX2 := hX.trans hx2
      clear hld hra hX hx2
      cases b with
      | true =>
        have HP : Hid (IffI (j : Int) (∀ p ∈ l, okPlc p)) := Lib.hid ⟨fun h => absurd h (by omega), fun h => by have := hb.2 (h p HMM.out); cases this⟩
        clear hb
        go_wp2_with fail
        go_ret
        exact ⟨_, rfl, HP.out, hX2⟩
      | false =>
        have HN : Hid (∀ p ∈ l.take (j + 1), okPlc p) := Lib.hid (by
          rw [HTK.out]
          intro q hq
          rcases List.mem_append.1 hq with hq | hq
          · exact HA.out q hq
          · simp only [List.mem_singleton] at hq
            subst hq
            exact hb.1 rfl)
        clear hb
        go_wp2_with fail
        go_roundw
        case rel => exact ⟨j + 1, by omega, by first | (with_reducible rfl) | go_num, HN, hX2⟩
        case measure => simp [intOf]; omega
    · have hij : ¬ (j : Int) < (l.length : Int) := by omega
      have HP : Hid (IffI (-1 : Int) (∀ p ∈ l, okPlc p)) := Lib.hid ⟨fun _ => by have := HA.out; rwa [List.take_of_length_le (by omega)] at this, fun _ => by omega⟩
      go_wp2_with fail
      go_ret
      exact ⟨_, rfl, HP.out, hX⟩
set_option maxHeartbeats 4000000 in
set_option maxRecDepth 100000 in
theorem containsWrong_any (x : Value) (l : List Plc) (w : World) (hx : InR plcCells w x l) (hl : l.length ≤ 9223372036854775807) : Calls Try.prog 92 #[x, .func (.func 93) #[] #[]] w (WrongPost (∀ p ∈ l, okPlc p) w) := by
  have HX := Lib.hid hx
  clear hx
  go_enter Try.func92, Try.ntmps92
  go_wp2_with fail
  refine (indexWrong_any x l w HX.out hl).mono ?_
  rintro en w2 ⟨i, rfl, hi, hx2⟩
  by_cases h : 0 ≤ i
  · have d : decide (0 ≤ i) = true := by simpa using h
    have HP : Hid (IffB true (∀ p ∈ l, okPlc p)) := Lib.hid ⟨fun h => (by cases h), fun h2 => absurd h (hi.2 h2)⟩
    clear h hi
    go_wp2_with fail
    go_ret
    exact ⟨true, rfl, HP.out, hx2⟩
  · have d : decide (0 ≤ i) = false := by simpa using h
    have HP : Hid (IffB false (∀ p ∈ l, okPlc p)) := Lib.hid ⟨fun _ => hi.1 h, fun _ => rfl⟩
    clear h hi
    go_wp2_with fail
    go_ret
    exact ⟨false, rfl, HP.out, hx2⟩
/-! comparisons -/
def cmpI (a b : Int) : Int := if a < b then -1 else if b < a then 1 else 0
theorem isNaN_any (a : Int) (w : World) : Calls Try.prog 116 #[.int .i64 a] w fun en w' => en = .returned (.bool false) ∧ w' = w := by
  have h : (a != a) = false := by simp
  go_enter Try.func116, Try.ntmps116
  go_wp2_with fail
  go_ret
  exact ⟨rfl, rfl⟩
set_option maxRecDepth 100000 in
theorem cmpCompare_any (a b : Int) (w : World) : Calls Try.prog 111 #[.int .i64 a, .int .i64 b] w fun en w' => en = .returned (.int .i64 (cmpI a b)) ∧ w' = w := by
  go_enter Try.func111, Try.ntmps111
  go_wp2_with fail
  refine (isNaN_any a w).mono ?_
  rintro en w2 ⟨rfl, rfl⟩
  go_wp2_with fail
  refine (isNaN_any b w2).mono ?_
  rintro en w3 ⟨rfl, rfl⟩
  by_cases h1 : a < b
  · have d1 : decide (a < b) = true := by simpa using h1
    have HP : Hid (cmpI a b = -1) := Lib.hid (by unfold cmpI; rw [if_pos h1])
    clear h1
    go_wp2_with fail
    go_ret
    exact ⟨by rw [HP.out]; rfl, rfl⟩
  · have d1 : decide (a < b) = false := by simpa using h1
    by_cases h2 : b < a
    · have d2 : decide (b < a) = true := by simpa using h2
      have HP : Hid (cmpI a b = 1) := Lib.hid (by unfold cmpI; rw [if_neg h1, if_pos h2])
      clear h1 h2
      go_wp2_with fail
      go_ret
      exact ⟨by rw [HP.out]; rfl, rfl⟩
    · have d2 : decide (b < a) = false := by simpa using h2
      have HP : Hid (cmpI a b = 0) := Lib.hid (by unfold cmpI; rw [if_neg h1, if_neg h2])
      clear h1 h2
      go_wp2_with fail
      go_ret
      exact ⟨by rw [HP.out]; rfl, rfl⟩
/-- the first number that is not zero -/
def orI : List Int → Int
  | [] => 0
  | v :: l => if v = 0 then orI l else v
set_option maxRecDepth 100000 in
theorem cmpOr_any (x : Value) (vs : List Int) (w : World) (hx : InI w x vs) (hl : vs.length ≤ 1000) : Calls Try.prog 110 #[x] w fun en w' => en = .returned (.int .i64 (orI vs)) ∧ Ext w w' := by
  obtain ⟨A, c, rfl, _, hrd⟩ := id hx
  have HRD := Lib.hid hrd
  clear hx hrd
  obtain ⟨n, hn⟩ : ∃ n, n = vs.length := ⟨_, rfl⟩
  rw [← hn] at hl ⊢
  have HN := Lib.hid hn
  clear hn
  go_enter Try.func110, Try.ntmps110
  go_wp2_with fail
  go_loopw [8] (fun i wr => ∃ (j : Nat), j ≤ n ∧ i = .int .i64 (j : Int) ∧ Hid (orI vs = orI (vs.drop j)) ∧ Ext w wr) (fun i _ => n - (intOf i).toNat)
  case atStart => exact ⟨0, by omega, rfl, Lib.hid rfl, Ext.refl _⟩
  case round =>
    obtain ⟨j, hj, rfl, HO, hX⟩ := hrel
    obtain ⟨wo, rfl⟩ : ∃ W : World, W = wr := ⟨_, rfl⟩
    by_cases hlt : j < n
    · have hij : (j : Int) < (n : Int) := by omega
      have hlt' : j < vs.length := by rw [← HN.out]; exact hlt
      obtain ⟨bb, oo, rfl, hc⟩ := (HRD.out.ext hX).at2 (k := j) (by simpa using hlt')
      have HD := Lib.hid (List.drop_eq_getElem_cons hlt')
      have hcell : wo.cell? ⟨bb, oo + j, none⟩ = some (.int .i64 vs[j]) := by rw [hc, List.getElem_map]; rfl
      generalize vs[j] = v at *
      clear hc
      by_cases h0 : v = 0
      · have e0 : (v != 0) = false := by simpa using h0
        have HO2 : Hid (orI vs = orI (vs.drop (j + 1))) := Lib.hid (by rw [HO.out, HD.out, orI, if_pos h0])
        clear h0 HO
        go_wp2_with fail
        go_roundw
        case rel => exact ⟨j + 1, by omega, by first | (with_reducible rfl) | go_num, HO2, hX⟩
        case measure => simp [intOf]; omega
      · have e0 : (v != 0) = true := by simpa using h0
        have HO2 : Hid (orI vs = v) := Lib.hid (by rw [HO.out, HD.out]; unfold orI; rw [if_neg h0])
        clear h0 HO
        go_wp2_with fail
        go_ret
        exact ⟨by rw [HO2.out]; rfl, hX⟩
    · have hij : ¬ (j : Int) < (n : Int) := by omega
      have HO2 : Hid (orI vs = 0) := Lib.hid (by rw [HO.out, List.drop_of_length_le (by rw [← HN.out]; omega)]; rfl)
      clear HO
      go_wp2_with fail
      go_ret
      exact ⟨by rw [HO2.out]; rfl, hX⟩
theorem orI_lt (a b : Rng) : 0 ≤ orI [cmpI a.lo b.lo, cmpI a.ctx b.ctx, cmpI a.var b.var, cmpI a.piece b.piece] ↔ ¬ ltK a b := by
  have key : ∀ x y : Int, (x < y ∧ cmpI x y = -1) ∨ (x = y ∧ cmpI x y = 0) ∨ (y < x ∧ cmpI x y = 1) := fun x y => by
    unfold cmpI
    rcases Int.lt_trichotomy x y with h | h | h
    · exact .inl ⟨h, by rw [if_pos h]⟩
    · exact .inr (.inl ⟨h, by rw [if_neg (by omega), if_neg (by omega)]⟩)
    · exact .inr (.inr ⟨h, by rw [if_neg (by omega), if_pos h]⟩)
  unfold ltK
  rcases key a.lo b.lo with ⟨h1, e1⟩ | ⟨h1, e1⟩ | ⟨h1, e1⟩
  · rw [e1]; simp [orI]; omega
  · rw [e1]
    rcases key a.ctx b.ctx with ⟨h2, e2⟩ | ⟨h2, e2⟩ | ⟨h2, e2⟩
    · rw [e2]; simp [orI]; omega
    · rw [e2]
      rcases key a.var b.var with ⟨h3, e3⟩ | ⟨h3, e3⟩ | ⟨h3, e3⟩
      · rw [e3]; simp [orI]; omega
      · rw [e3]
        rcases key a.piece b.piece with ⟨h4, e4⟩ | ⟨h4, e4⟩ | ⟨h4, e4⟩
        · rw [e4]; simp [orI]; omega
        · rw [e4]; simp [orI]; omega
        · rw [e4]; simp [orI]; omega
      · rw [e3]; simp [orI]; omega
    · rw [e2]; simp [orI]; omega
  · rw [e1]; simp [orI]; omega
def CmpPost (a b : Rng) (w : World) (en : Ending) (w' : World) : Prop := ∃ v : Int, en = .returned (.int .i64 v) ∧ (0 ≤ v ↔ ¬ ltK a b) ∧ Ext w w'
set_option maxHeartbeats 4000000 in
set_option maxRecDepth 100000 in
theorem compareR_any (a b : Rng) (y z : Value) (w : World) (hy : ∃ A n c, y = .slice A n c) (hz : ∃ A n c, z = .slice A n c) : Calls Try.prog 94 #[.agg #[.int .i64 a.ctx, .int .i64 a.var, .int .i64 a.piece, .int .i64 a.lo, .int .i64 a.hi, y], .agg #[.int .i64 b.ctx, .int .i64 b.var, .int .i64 b.piece, .int .i64 b.lo, .int .i64 b.hi, z]] w (CmpPost a b w) := by
  obtain ⟨A1, n1, c1, rfl⟩ := hy
  obtain ⟨A2, n2, c2, rfl⟩ := hz
  go_enter Try.func94, Try.ntmps94
  go_upto_region 1 with fail
  have e1 := heap_alloc_new w (.cells #[.int .i64 a.ctx, .int .i64 a.var, .int .i64 a.piece, .int .i64 a.lo, .int .i64 a.hi, .slice A1 n1 c1] 69)
  have x1 := (Ext.refl w).alloc (.cells #[.int .i64 a.ctx, .int .i64 a.var, .int .i64 a.piece, .int .i64 a.lo, .int .i64 a.hi, .slice A1 n1 c1] 69)
  have z1 : (w.alloc (.cells #[.int .i64 a.ctx, .int .i64 a.var, .int .i64 a.piece, .int .i64 a.lo, .int .i64 a.hi, .slice A1 n1 c1] 69)).heap.size = w.heap.size + 1 := by simp
  have e2 := heap_alloc_new (w.alloc (.cells #[.int .i64 a.ctx, .int .i64 a.var, .int .i64 a.piece, .int .i64 a.lo, .int .i64 a.hi, .slice A1 n1 c1] 69)) (.cells #[.int .i64 b.ctx, .int .i64 b.var, .int .i64 b.piece, .int .i64 b.lo, .int .i64 b.hi, .slice A2 n2 c2] 69)
  have x2 := (Ext.refl (w.alloc (.cells #[.int .i64 a.ctx, .int .i64 a.var, .int .i64 a.piece, .int .i64 a.lo, .int .i64 a.hi, .slice A1 n1 c1] 69))).alloc (.cells #[.int .i64 b.ctx, .int .i64 b.var, .int .i64 b.piece, .int .i64 b.lo, .int .i64 b.hi, .slice A2 n2 c2] 69)
  have e1' := x2.heap e1
  have hE := x1.trans x2
  rw [z1] at e2
  generalize (w.alloc (.cells #[.int .i64 a.ctx, .int .i64 a.var, .int .i64 a.piece, .int .i64 a.lo, .int .i64 a.hi, .slice A1 n1 c1] 69)).alloc (.cells #[.int .i64 b.ctx, .int .i64 b.var, .int .i64 b.piece, .int .i64 b.lo, .int .i64 b.hi, .slice A2 n2 c2] 69) = W at *
  clear e1 x1 z1 x2
  obtain ⟨a0, a1, a2, a3, a4, a5⟩ := blk6 e1'
  obtain ⟨b0, b1, b2, b3, b4, b5⟩ := blk6 e2
  refine wp_region_X #[true, true, true, true, true, true, true, true, true, true, true, true, true, true, true, true, true, true, true, true, true, true, false] 22 1 (by kernel_rfl) rfl ?_
  refine wpX_vt 0 (.pointer (some ⟨w.heap.size, 3, none⟩)) rfl rfl (by kernel_rfl) (by kernel_rfl) (by kernel_rfl) (fun _ _ _ _ h => h) (by kernel_rfl) rfl (by rfl) (fun W' hW => by
    skip
    go_simp) ?_
  simp only [List.setIfInBounds_toArray, List.set_cons_zero, List.set_cons_succ]
  refine wpX_vt 1 (.int .i64 a.lo) rfl rfl (by kernel_rfl) (by kernel_rfl) (by kernel_rfl) (fun _ _ _ _ h => h) (by kernel_rfl) rfl (by rfl) (fun W' hW => by
    have z := (((Ext.refl W).drew).trans hW).cell a3
    go_simp) ?_
  simp only [List.setIfInBounds_toArray, List.set_cons_zero, List.set_cons_succ]
  refine wpX_vt 2 (.pointer (some ⟨w.heap.size + 1, 3, none⟩)) rfl rfl (by kernel_rfl) (by kernel_rfl) (by kernel_rfl) (fun _ _ _ _ h => h) (by kernel_rfl) rfl (by rfl) (fun W' hW => by
    skip
    go_simp) ?_
  simp only [List.setIfInBounds_toArray, List.set_cons_zero, List.set_cons_succ]
  refine wpX_vt 3 (.int .i64 b.lo) rfl rfl (by kernel_rfl) (by kernel_rfl) (by kernel_rfl) (fun _ _ _ _ h => h) (by kernel_rfl) rfl (by rfl) (fun W' hW => by
    have z := (((Ext.refl W).drew).trans hW).cell b3
    go_simp) ?_
  simp only [List.setIfInBounds_toArray, List.set_cons_zero, List.set_cons_succ]
  refine wpX_vt 5 (.pointer (some ⟨w.heap.size, 0, none⟩)) rfl rfl (by kernel_rfl) (by kernel_rfl) (by kernel_rfl) (fun _ _ _ _ h => h) (by kernel_rfl) rfl (by rfl) (fun W' hW => by
    skip
    go_simp) ?_
  simp only [List.setIfInBounds_toArray, List.set_cons_zero, List.set_cons_succ]
  refine wpX_vt 6 (.int .i64 a.ctx) rfl rfl (by kernel_rfl) (by kernel_rfl) (by kernel_rfl) (fun _ _ _ _ h => h) (by kernel_rfl) rfl (by rfl) (fun W' hW => by
    have z := (((Ext.refl W).drew).trans hW).cell a0
    go_simp) ?_
  simp only [List.setIfInBounds_toArray, List.set_cons_zero, List.set_cons_succ]
  refine wpX_vt 7 (.pointer (some ⟨w.heap.size + 1, 0, none⟩)) rfl rfl (by kernel_rfl) (by kernel_rfl) (by kernel_rfl) (fun _ _ _ _ h => h) (by kernel_rfl) rfl (by rfl) (fun W' hW => by
    skip
    go_simp) ?_
  simp only [List.setIfInBounds_toArray, List.set_cons_zero, List.set_cons_succ]
  refine wpX_vt 8 (.int .i64 b.ctx) rfl rfl (by kernel_rfl) (by kernel_rfl) (by kernel_rfl) (fun _ _ _ _ h => h) (by kernel_rfl) rfl (by rfl) (fun W' hW => by
    have z := (((Ext.refl W).drew).trans hW).cell b0
    go_simp) ?_
  simp only [List.setIfInBounds_toArray, List.set_cons_zero, List.set_cons_succ]
  refine wpX_vt 10 (.pointer (some ⟨w.heap.size, 1, none⟩)) rfl rfl (by kernel_rfl) (by kernel_rfl) (by kernel_rfl) (fun _ _ _ _ h => h) (by kernel_rfl) rfl (by rfl) (fun W' hW => by
    skip
    go_simp) ?_
  simp only [List.setIfInBounds_toArray, List.set_cons_zero, List.set_cons_succ]
  refine wpX_vt 11 (.int .i64 a.var) rfl rfl (by kernel_rfl) (by kernel_rfl) (by kernel_rfl) (fun _ _ _ _ h => h) (by kernel_rfl) rfl (by rfl) (fun W' hW => by
    have z := (((Ext.refl W).drew).trans hW).cell a1
    go_simp) ?_
  simp only [List.setIfInBounds_toArray, List.set_cons_zero, List.set_cons_succ]
  refine wpX_vt 12 (.pointer (some ⟨w.heap.size + 1, 1, none⟩)) rfl rfl (by kernel_rfl) (by kernel_rfl) (by kernel_rfl) (fun _ _ _ _ h => h) (by kernel_rfl) rfl (by rfl) (fun W' hW => by
    skip
    go_simp) ?_
  simp only [List.setIfInBounds_toArray, List.set_cons_zero, List.set_cons_succ]
  refine wpX_vt 13 (.int .i64 b.var) rfl rfl (by kernel_rfl) (by kernel_rfl) (by kernel_rfl) (fun _ _ _ _ h => h) (by kernel_rfl) rfl (by rfl) (fun W' hW => by
    have z := (((Ext.refl W).drew).trans hW).cell b1
    go_simp) ?_
  simp only [List.setIfInBounds_toArray, List.set_cons_zero, List.set_cons_succ]
  refine wpX_vt 15 (.pointer (some ⟨w.heap.size, 2, none⟩)) rfl rfl (by kernel_rfl) (by kernel_rfl) (by kernel_rfl) (fun _ _ _ _ h => h) (by kernel_rfl) rfl (by rfl) (fun W' hW => by
    skip
    go_simp) ?_
  simp only [List.setIfInBounds_toArray, List.set_cons_zero, List.set_cons_succ]
  refine wpX_vt 16 (.int .i64 a.piece) rfl rfl (by kernel_rfl) (by kernel_rfl) (by kernel_rfl) (fun _ _ _ _ h => h) (by kernel_rfl) rfl (by rfl) (fun W' hW => by
    have z := (((Ext.refl W).drew).trans hW).cell a2
    go_simp) ?_
  simp only [List.setIfInBounds_toArray, List.set_cons_zero, List.set_cons_succ]
  refine wpX_vt 17 (.pointer (some ⟨w.heap.size + 1, 2, none⟩)) rfl rfl (by kernel_rfl) (by kernel_rfl) (by kernel_rfl) (fun _ _ _ _ h => h) (by kernel_rfl) rfl (by rfl) (fun W' hW => by
    skip
    go_simp) ?_
  simp only [List.setIfInBounds_toArray, List.set_cons_zero, List.set_cons_succ]
  refine wpX_vt 18 (.int .i64 b.piece) rfl rfl (by kernel_rfl) (by kernel_rfl) (by kernel_rfl) (fun _ _ _ _ h => h) (by kernel_rfl) rfl (by rfl) (fun W' hW => by
    have z := (((Ext.refl W).drew).trans hW).cell b2
    go_simp) ?_
  simp only [List.setIfInBounds_toArray, List.set_cons_zero, List.set_cons_succ]
  refine wpX_c 4 111 #[.int .i64 a.lo, .int .i64 b.lo] rfl rfl (by kernel_rfl) rfl rfl (fun W => by go_simp) ?_
  intro W1 hW1
  have hXW1 := ((Ext.refl W).drew).trans hW1
  refine (cmpCompare_any a.lo b.lo W1).mono ?_
  rintro en w5' ⟨rfl, hw5⟩
  subst hw5
  refine ⟨_, rfl, Ext.refl _, ?_⟩
  simp only [List.setIfInBounds_toArray, List.set_cons_zero, List.set_cons_succ]
  refine wpX_c 9 111 #[.int .i64 a.ctx, .int .i64 b.ctx] rfl rfl (by kernel_rfl) rfl rfl (fun W => by go_simp) ?_
  intro W2 hW2
  have hXW2 := hXW1.trans hW2
  refine (cmpCompare_any a.ctx b.ctx W2).mono ?_
  rintro en w5' ⟨rfl, hw5⟩
  subst hw5
  refine ⟨_, rfl, Ext.refl _, ?_⟩
  simp only [List.setIfInBounds_toArray, List.set_cons_zero, List.set_cons_succ]
  refine wpX_c 14 111 #[.int .i64 a.var, .int .i64 b.var] rfl rfl (by kernel_rfl) rfl rfl (fun W => by go_simp) ?_
  intro W3 hW3
  have hXW3 := hXW2.trans hW3
  refine (cmpCompare_any a.var b.var W3).mono ?_
  rintro en w5' ⟨rfl, hw5⟩
  subst hw5
  refine ⟨_, rfl, Ext.refl _, ?_⟩
  simp only [List.setIfInBounds_toArray, List.set_cons_zero, List.set_cons_succ]
  refine wpX_c 19 111 #[.int .i64 a.piece, .int .i64 b.piece] rfl rfl (by kernel_rfl) rfl rfl (fun W => by go_simp) ?_
  intro W4 hW4
  have hXW4 := hXW3.trans hW4
  refine (cmpCompare_any a.piece b.piece W4).mono ?_
  rintro en w5' ⟨rfl, hw5⟩
  subst hw5
  refine ⟨_, rfl, Ext.refl _, ?_⟩
  simp only [List.setIfInBounds_toArray, List.set_cons_zero, List.set_cons_succ]
  refine wpX_m 20 rfl rfl (by kernel_rfl) rfl (by rfl) fun W5 hW5 => ?_
  have hA := (Ext.refl W5).alloc (.cells #[.int .i64 (cmpI a.lo b.lo), .int .i64 (cmpI a.ctx b.ctx), .int .i64 (cmpI a.var b.var), .int .i64 (cmpI a.piece b.piece)] 3)
  refine ⟨.slice (some ⟨W5.heap.size, 0, none⟩) 4 4, W5.alloc (.cells #[.int .i64 (cmpI a.lo b.lo), .int .i64 (cmpI a.ctx b.ctx), .int .i64 (cmpI a.var b.var), .int .i64 (cmpI a.piece b.piece)] 3), by go_simp, hA, ?_⟩
  simp only [List.setIfInBounds_toArray, List.set_cons_zero, List.set_cons_succ]
  have hin : InI (W5.alloc (.cells #[.int .i64 (cmpI a.lo b.lo), .int .i64 (cmpI a.ctx b.ctx), .int .i64 (cmpI a.var b.var), .int .i64 (cmpI a.piece b.piece)] 3)) (.slice (some ⟨W5.heap.size, 0, none⟩) 4 4) [cmpI a.lo b.lo, cmpI a.ctx b.ctx, cmpI a.var b.var, cmpI a.piece b.piece] := ⟨_, 4, rfl, Nat.le_refl _, Rd_blk (heap_alloc_new W5 (.cells #[.int .i64 (cmpI a.lo b.lo), .int .i64 (cmpI a.ctx b.ctx), .int .i64 (cmpI a.var b.var), .int .i64 (cmpI a.piece b.piece)] 3))⟩
  have hX5 := (hXW4.trans hW5).trans hA
  generalize W5.alloc (.cells #[.int .i64 (cmpI a.lo b.lo), .int .i64 (cmpI a.ctx b.ctx), .int .i64 (cmpI a.var b.var), .int .i64 (cmpI a.piece b.piece)] 3) = W6 at *
  generalize W5.heap.size = g6 at *
  refine wpX_c 21 110 #[.slice (some ⟨g6, 0, none⟩) 4 4] rfl rfl (by kernel_rfl) rfl rfl (fun W => by go_simp) ?_
  intro W7 hW7
  refine (cmpOr_any _ _ W7 (hin.ext hW7) (by simp)).mono ?_
  rintro en w8 ⟨rfl, he8⟩
  refine ⟨_, rfl, he8, ?_⟩
  simp only [List.setIfInBounds_toArray, List.set_cons_zero, List.set_cons_succ]
  obtain ⟨v, hv⟩ : ∃ v, v = orI [cmpI a.lo b.lo, cmpI a.ctx b.ctx, cmpI a.var b.var, cmpI a.piece b.piece] := ⟨_, rfl⟩
  have HV : Hid (0 ≤ v ↔ ¬ ltK a b) := Lib.hid (by rw [hv]; exact orI_lt a b)
  rw [← hv]
  clear hv
  refine wpX_end rfl fun W9 hW9 => tail_seq 22 rfl (by kernel_rfl) ?_
  simp only [List.drop_succ_cons, List.drop_zero]
  have hX9 := hE.trans (((hX5.trans hW7).trans he8).trans hW9)
  clear hW9 he8 hW7 hX5 hin hA hW5 hXW1 hXW2 hXW3 hXW4 hW1 hW2 hW3 hW4 e1' e2 a0 a1 a2 a3 a4 a5 b0 b1 b2 b3 b4 b5
  go_wp2_with fail
  refine NoPanic.normal ?_
  go_wp2_with fail
  go_ret
  exact ⟨v, rfl, HV.out, hX9⟩
set_option maxHeartbeats 4000000 in
set_option maxRecDepth 100000 in
theorem pieceOf_any (a : Rng) (y : Value) (w : World) (hy : ∃ A n c, y = .slice A n c) : Calls Try.prog 95 #[.agg #[.int .i64 a.ctx, .int .i64 a.var, .int .i64 a.piece, .int .i64 a.lo, .int .i64 a.hi, y]] w fun en w' => en = .returned (.agg #[.int .i64 a.ctx, .int .i64 a.var, .int .i64 a.piece]) ∧ Ext w w' := by
  obtain ⟨A1, n1, c1, rfl⟩ := hy
  go_enter Try.func95, Try.ntmps95
  go_upto_region 1 with fail
  have e1 := heap_alloc_new w (.cells #[.int .i64 a.ctx, .int .i64 a.var, .int .i64 a.piece, .int .i64 a.lo, .int .i64 a.hi, .slice A1 n1 c1] 69)
  have x1 := (Ext.refl w).alloc (.cells #[.int .i64 a.ctx, .int .i64 a.var, .int .i64 a.piece, .int .i64 a.lo, .int .i64 a.hi, .slice A1 n1 c1] 69)
  have z1 : (w.alloc (.cells #[.int .i64 a.ctx, .int .i64 a.var, .int .i64 a.piece, .int .i64 a.lo, .int .i64 a.hi, .slice A1 n1 c1] 69)).heap.size = w.heap.size + 1 := by simp
  have e2 := heap_alloc_new (w.alloc (.cells #[.int .i64 a.ctx, .int .i64 a.var, .int .i64 a.piece, .int .i64 a.lo, .int .i64 a.hi, .slice A1 n1 c1] 69)) (.cells #[.int .i64 0, .int .i64 0, .int .i64 0] 156)
  have x2 := (Ext.refl (w.alloc (.cells #[.int .i64 a.ctx, .int .i64 a.var, .int .i64 a.piece, .int .i64 a.lo, .int .i64 a.hi, .slice A1 n1 c1] 69))).alloc (.cells #[.int .i64 0, .int .i64 0, .int .i64 0] 156)
  have e1' := x2.heap e1
  have hE := x1.trans x2
  rw [z1] at e2
  generalize (w.alloc (.cells #[.int .i64 a.ctx, .int .i64 a.var, .int .i64 a.piece, .int .i64 a.lo, .int .i64 a.hi, .slice A1 n1 c1] 69)).alloc (.cells #[.int .i64 0, .int .i64 0, .int .i64 0] 156) = W at *
  clear e1 x1 z1 x2
  obtain ⟨a0, a1, a2, a3, a4, a5⟩ := blk6 e1'
  have hst := run_storeAt_blk (P := Try.prog) W (w.heap.size + 1) 156 156 _ #[.int .i64 a.ctx, .int .i64 a.var, .int .i64 a.piece] e2 (by kernel_rfl) rfl (by simp [Value.oneCell'])
  have hG := setRow_heap W (w.heap.size + 1) _ #[.int .i64 a.ctx, .int .i64 a.var, .int .i64 a.piece] _ _ e2
  have hXn := hE.grown (gsetRow W (w.heap.size + 1) #[.int .i64 a.ctx, .int .i64 a.var, .int .i64 a.piece]) (fun k e => by cases e; omega)
  go_wp2_with first | refine wpList_store_run rfl 156 (.tmp 2) (.tmp 9) rfl _ _ _ rfl rfl hst ?_
  obtain ⟨k0, k1, k2⟩ := blkT hG
  refine bodyPost_ret (v := .agg #[.int .i64 a.ctx, .int .i64 a.var, .int .i64 a.piece]) (by simp [results, Try.results95, go_sem, k0, k1, k2]) rfl ?_
  exact ⟨rfl, hXn⟩
end Go.Proofs.Ytokmbdeafjmcjaa
