/- The walk that reads the values of an entry. -/
import Derived.Test.YtopanbcodfkedaaInfH
namespace Go.Proofs.Ytopanbcodfkedaa
open Go.RowKit
set_option linter.unusedVariables false
set_option linter.unusedSimpArgs false

theorem textR_err {b : List UInt8} {p : Int} (h : (textR b p).2.2 ≠ 0) : (textR b p).1 = [] := by
  unfold textR at *
  split at h
  · rename_i h1; rw [if_pos h1]
  · rename_i h1
    rw [if_neg h1]
    split at h
    · rename_i h2; rw [if_pos h2]
    · exact absurd rfl h
theorem textR_next {b : List UInt8} {p : Int} (h : (textR b p).2.2 = 0) : 0 ≤ p ∧ p < (textR b p).2.1 ∧ (textR b p).2.1 ≤ b.length := by
  unfold textR at *
  split at h
  · rename_i h1; exact absurd h h1
  · rename_i h1
    rw [if_neg h1]
    have h1' : (uintR b p).2.2 = 0 := by simpa using h1
    have h6 := uintR_next h1'
    have h7 : 0 ≤ (uintR b p).1 := by unfold uintR; simp
    split at h
    · cases h
    · rename_i h2
      rw [if_neg h2]
      simp only
      omega
theorem textR_len (b : List UInt8) (p : Int) : (textR b p).1.length ≤ b.length := by
  unfold textR
  split
  · simp
  · split
    · simp
    · simp only [List.length_take, List.length_drop]
      omega
theorem intR_rng (b : List UInt8) (p : Int) : I64 (intR b p).1 := by
  have h := rdAt_lt9 b p
  unfold intR I64 unzig
  simp only
  split <;> omega
theorem intR_fwd {l : List UInt8} {p : Int} (h : (intR l p).2.2 = 0) : 0 ≤ p ∧ p < (intR l p).2.1 ∧ (intR l p).2.1 ≤ l.length := by
  unfold intR rdAt at *
  by_cases hp : p < 0 ∨ l.length < p
  · rw [if_pos hp] at h; cases h
  · rw [if_neg hp] at h ⊢
    simp only at h ⊢
    have h' : (rd 9 1 (l.drop p.toNat) 0 0).2.2 = 0 := by omega
    have := rd_count 9 1 (l.drop p.toNat) 0 0 h'
    rw [if_pos h']
    simp only [List.length_drop] at this
    omega
structure VL (w : World) (gd : Nat) (x : Value) (C : List Value) (q : Int) (v : Value) (l : List Att) (W : World) : Prop where
  own : OwnR attCells 4 40 w.heap.size W v l
  rd : W.heap[gd]? = some (.cells (x :: .int .i64 q :: C).toArray 93 (0, 0))
  kept : Kept w.heap.size [gd] w W
  low : gd < w.heap.size
section
variable {w W W' : World} {gd : Nat} {x : Value} {C : List Value} {q q' : Int} {v : Value} {l : List Att}
theorem VL.ext (h : VL w gd x C q v l W) (he : Ext W W') : VL w gd x C q v l W' := ⟨h.own.ext he, he.heap h.rd, h.kept.trans (Kept.of_ext he h.kept.size), h.low⟩
theorem VL.reader (h : VL w gd x C q v l W) (hg : W.grownBy W' (some gd)) (hb : W'.heap[gd]? = some (.cells (x :: .int .i64 q' :: C).toArray 93 (0, 0))) : VL w gd x C q' v l W' :=
  ⟨h.own.kept hg (.inr (h.own.ne_blk h.rd (by decide))), hb, h.kept.trans (Kept.of_grown hg h.kept.size (fun k e => by cases e; exact .inr (by simp))), h.low⟩
theorem VL.put (h : VL w gd x C q v l W) {ga : Nat} (hne : v.ownBlock ≠ some ga) (hl : w.heap.size ≤ ga) (j : Nat) (u : Value) : VL w gd x C q v l (W.setCell ⟨ga, j, none⟩ u) :=
  ⟨h.own.kept (gset W ⟨ga, j, none⟩ u) (.inr hne), blk_grown h.rd (gset W ⟨ga, j, none⟩ u) (fun e => by have e1 : gd = ga := (by injection e); have := h.low; omega), h.kept.trans (Kept.of_grown (gset W ⟨ga, j, none⟩ u) h.kept.size (fun k e => by cases e; exact .inl hl)), h.low⟩
theorem VL.at_ (h : VL w gd x C q v l W) (q' : Int) : VL w gd x C q' v l (W.setCell ⟨gd, 1, none⟩ (.int .i64 q')) :=
  h.reader (gset W ⟨gd, 1, none⟩ (.int .i64 q')) (by have := blk_set h.rd 1 (.int .i64 q'); simpa using this)
end
def ValsPost (gd : Nat) (x : Value) (C : List Value) (r : Except Int (List Att × Int)) (w : World) (en : Ending) (w' : World) : Prop :=
  match r with
  | .error e => en = .returned (.tuple #[.slice none 0 0, .int .i64 e]) ∧ e ≠ 0 ∧ Kept w.heap.size [gd] w w'
  | .ok (l, q) => ∃ y, en = .returned (.tuple #[y, .int .i64 0]) ∧ VL w gd x C q y l w'
set_option maxHeartbeats 40000000 in
set_option maxRecDepth 100000 in
theorem vals_any (gd : Nat) (x ya : Value) (C : List Value) (b : List UInt8) (ats : List Att) (p : Int) (w : World) (hx : St [gd] w (fun W => InB W x b)) (hya : St [gd] w (fun W => InR attCells W ya ats)) (hb : w.heap[gd]? = some (.cells (x :: .int .i64 p :: C).toArray 93 (0, 0))) (hl : b.length ≤ 1000000)
    (hf : ∀ a ∈ ats, 1 ≤ a.form ∧ a.form ≤ 4) (h12 : ats.length ≤ 12) :
    Calls Try.prog 53 #[.pointer (some ⟨gd, 0, none⟩), ya] w (ValsPost gd x C (valsD b ats [] p) w) := by
  obtain ⟨A0, c0, rfl, _, _⟩ := id hx.out
  obtain ⟨n0, hn0⟩ : ∃ n0, n0 = b.length := ⟨_, rfl⟩
  rw [← hn0] at hx hb ⊢
  clear hn0
  obtain ⟨A1, c1, rfl, _⟩ := id hya.out
  obtain ⟨n, hn⟩ : ∃ n, n = ats.length := ⟨_, rfl⟩
  rw [← hn] at hya h12 ⊢
  have HX := Lib.hid hx
  have HY := Lib.hid hya
  have HF := Lib.hid hf
  have HN := Lib.hid hn
  have hV0 : VL w gd (.slice A0 n0 c0) C p (.slice none 0 0) [] w := ⟨OwnR.nil _, hb, Kept.refl _ _ _, heap_lt hb⟩
  clear hx hya hf hn hb
  go_enter Try.func53, Try.ntmps53
  go_wp2_with fail
  go_loopw [6, 14] (fun v i wr => ∃ (k : Nat) (l : List Att) (q : Int), k ≤ n ∧ i = .int .i64 (k : Int) ∧ Hid (l.length = k) ∧ Hid (valsD b ats [] p = valsD b (ats.drop k) l q) ∧ VL w gd (.slice A0 n0 c0) C q v l wr) (fun _ i _ => n - (intOf i).toNat)
  case atStart => exact ⟨0, [], p, by omega, rfl, Lib.hid rfl, Lib.hid (by rw [List.drop_zero]), hV0⟩
  case round =>
    clear hV0
    obtain ⟨k, l, q, hk, rfl, HK, HD, hV⟩ := hrel
    obtain ⟨wo, rfl⟩ : ∃ W : World, W = wr := ⟨_, rfl⟩
    by_cases hlt : k < n
    · have hik : (k : Int) < (n : Int) := by omega
      have hlt' : k < ats.length := by rw [← HN.out]; exact hlt
      have hnl : l.length ≤ 12 := by rw [HK.out]; omega
      obtain ⟨bb, oo, hAe, hra⟩ := (HY.out wo hV.kept).at_ (k := 4) (fun z hz => rfl) (by omega) hlt'
      subst hAe
      have HDN : Hid (valsD b ats [] p = match valD ats[k] b q with
        | .error e => .error e
        | .ok (x, q') => valsD b (ats.drop (k + 1)) (l ++ [x]) q') := Lib.hid (by
        rw [HD.out, List.drop_eq_getElem_cons hlt']
        rfl)
      have hfm := HF.out _ (List.getElem_mem hlt')
      clear HD
      generalize ats[k] = a at *
      have hld := att_load hra
      obtain ⟨hst, hGa, hXG⟩ := box_new (P := Try.prog) wo 40 #[.int .i64 0, .int .i64 0, .int .i64 0, .string ByteArray.empty] #[.int .i64 a.name, .int .i64 a.form, .int .i64 a.value, .string a.text] at_size rfl (by simp [Value.oneCell'])
      go_upto_region 6 with first | refine wpList_load_run rfl 40 (.tmp 16) rfl _ _ rfl hld ?_ | refine wpList_store_run rfl 40 (.tmp 8) (.tmp 17) rfl _ _ _ rfl rfl hst ?_
      obtain ⟨ga, hga⟩ : ∃ g, g = wo.heap.size := ⟨_, rfl⟩
      have hne : u6.ownBlock ≠ some ga := fun e => by have := hV.own.lt ga e; omega
      have hgl : w.heap.size ≤ ga := by rw [hga]; exact hV.kept.size
      rw [← hga] at hGa hXG ⊢
      generalize (wo.alloc (.cells #[.int .i64 0, .int .i64 0, .int .i64 0, .string ByteArray.empty] 40)).setRow ga #[.int .i64 a.name, .int .i64 a.form, .int .i64 a.value, .string a.text] = wg at *
      try dsimp only [Act.put]
      replace hV := hV.ext hXG
      obtain ⟨r0, r1, r2, r3⟩ := blkR hGa
      clear hst hld hra hXG hga
      have hVl := hV.low
      have hgg : gd ≠ ga := by omega
      by_cases g1 : a.form = 1
      case pos =>
        have HVF : Hid (valD a b q = match betR 0 1099511627776 2 b q with
          | .error e => .error e
          | .ok (v, q) => .ok (⟨a.name, a.form, v, a.text⟩, q)) := Lib.hid (by unfold valD; rw [if_pos g1] <;> rfl)
        have f1 : decide (a.form = 1) = true := by simp; omega
        have f2 : decide (a.form = 2) = false := by simp; omega
        have f3 : decide (a.form = 3) = false := by simp; omega
        have f4 : decide (a.form = 4) = false := by simp; omega
        have f1b : (a.form == 1) = true := by simp; omega
        have f2b : (a.form == 2) = false := by simp; omega
        have f3b : (a.form == 3) = false := by simp; omega
        have f4b : (a.form == 4) = false := by simp; omega
        clear g1
        go_wp2_with fail
        have hb1 := inBet_any gd 93 C _ b q 0 1099511627776 2 wg (HX.out wg hV.kept) hV.rd hl (by decide)
        rcases htr : betR 0 1099511627776 2 b q with e | ⟨v, q1⟩
        · rw [htr] at hb1
          refine hb1.mono ?_
          rintro en w2 ⟨⟨v, rfl⟩, he0, hg2⟩
          have hG2 := blk_grown hGa hg2 (fun e => hgg (by injection e with e; exact e.symm))
          have hK := (hV.kept.trans (Kept.of_grown hg2 hV.kept.size (fun k e => by cases e; exact .inr (by simp)))).trans (Kept.of_grown (xs := [gd]) (gset w2 ⟨ga, 2, none⟩ (.int .i64 v)) (Nat.le_trans hV.kept.size hg2.size) (fun k e => by cases e; exact .inl hgl))
          have HPF : Hid (valsD b ats [] p = .error e) := Lib.hid (by rw [HDN.out, HVF.out, htr])
          have e0 : (e != 0) = true := by simpa using he0
          have HE0 := Lib.hid he0
          clear htr hb1 he0 hg2 hV hGa r0 r1 r2 r3
          obtain ⟨r0, r1, r2, r3⟩ := blkR hG2
          have f2 := blk_free hG2 2
          have hlt := heap_lt hG2
          go_wp2_with fail
          refine bodyPost_ret (by simp [results, Try.results53, go_sem]; rfl) rfl ?_
          rw [HPF.out]
          exact ⟨rfl, HE0.out, hK⟩
        rw [htr] at hb1
        refine hb1.mono ?_
        rintro en w2 ⟨rfl, hrd2, hg2⟩
        have hG2 := blk_grown hGa hg2 (fun e => hgg (by injection e with e; exact e.symm))
        have hV2 := hV.reader hg2 hrd2
        have hV := hV2.put hne hgl 2 (.int .i64 v)
        have HVD : Hid (valD a b q = .ok (⟨a.name, a.form, v, a.text⟩, q1)) := Lib.hid (by rw [HVF.out, htr])
        clear htr hb1 hg2 hrd2 hV2 hGa r0 r1 r2 r3
        have hGa := blk_set hG2 2 (.int .i64 v)
        simp only [List.setIfInBounds_toArray, List.set_cons_succ, List.set_cons_zero] at hGa
        obtain ⟨r0, r1, r2, r3⟩ := blkR hG2
        have f2 := blk_free hG2 2
        have hlt := heap_lt hG2
        go_upto_region 23 with fail
        clear r0 r1 r2 r3 f2 hlt hG2
        generalize w2.setCell ⟨ga, 2, none⟩ (.int .i64 v) = w3 at *
        obtain ⟨att, hatt⟩ : ∃ z : Att, z = ⟨a.name, a.form, v, a.text⟩ := ⟨_, rfl⟩
        have HPN : Hid (valsD b ats [] p = valsD b (ats.drop (k + 1)) (l ++ [att]) q1) := Lib.hid (by
          rw [HDN.out, HVD.out, hatt])
        have hldt := run_loadAt_blk (P := Try.prog) w3 ga 40 40 _ (0, 0) _ hGa Try.underlying40 rfl at_size
        have hA5 := (Ext.refl w3).alloc (.cells #[.int .i64 a.name, .int .i64 a.form, .int .i64 v, .string a.text] 40)
        have hin5 : InR attCells (w3.alloc (.cells #[.int .i64 a.name, .int .i64 a.form, .int .i64 v, .string a.text] 40)) (.slice (some ⟨w3.heap.size, 0, none⟩) 1 1) [att] := by rw [hatt]; exact (OwnR_one (f := attCells) w3 ⟨a.name, a.form, v, a.text⟩ rfl 40).inR
        have hone : ∀ z ∈ [att], ∀ u ∈ attCells z, u.oneCell' = true := fun z hz u hu => by
          simp only [List.mem_singleton] at hz
          subst hz
          simp only [attCells, List.mem_cons, List.not_mem_nil, or_false] at hu
          rcases hu with rfl | rfl | rfl | rfl <;> rfl
        have hVd := hV.ext hA5
        have hszd : w.heap.size ≤ (w3.alloc (.cells #[.int .i64 a.name, .int .i64 a.form, .int .i64 v, .string a.text] 40)).heap.size := hVd.kept.size
        clear hatt hV
        go_wp2_with first | refine wpList_load_run rfl 40 (.tmp 8) rfl _ _ rfl hldt ?_ | refine wpList_rowOne elem_at rfl (.tmp 91) rfl #[.int .i64 a.name, .int .i64 a.form, .int .i64 v, .string a.text] rfl rfl (by omega) ?_ | (at_builtin; go_must (refine wpList_appendR elem_at rfl (.tmp 90) (.tmp 92) rfl w.heap.size _ l rfl hVd.own _ [att] rfl hin5 (fun _ _ => rfl) hone (by simp only [List.length_cons, List.length_nil]; omega) (by omega) hszd (Hold.out ?_)))
        refine Hold.mk fun v9 w9 ho9 hg9 => ?_
        have hV9 : VL w gd (.slice A0 n0 c0) C q1 v9 (l ++ [att]) w9 := ⟨ho9, blk_grown hVd.rd hg9.grown (fun e => hVd.own.ne_blk hVd.rd (by decide) e.symm), hVd.kept.trans (Kept.of_grown hg9.grown hVd.kept.size (fun k e => .inl (hVd.own.ge k e))), hVd.low⟩
        have HKN : Hid ((l ++ [att]).length = k + 1) := Lib.hid (by rw [List.length_append, HK.out]; rfl)
        clear ho9 hg9 hVd hldt hA5 hin5 hone hszd hGa
        go_wp2_with fail
        go_roundw
        case rel => exact ⟨k + 1, l ++ [att], q1, by omega, by first | (with_reducible rfl) | go_num, HKN, HPN, hV9⟩
        case measure => simp [intOf]; omega
      by_cases g2 : a.form = 2
      case pos =>
        have HVF : Hid (valD a b q = if (intR b q).2.2 ≠ 0 then .error (intR b q).2.2 else .ok (⟨a.name, a.form, (intR b q).1, a.text⟩, (intR b q).2.1)) := Lib.hid (by unfold valD; rw [if_neg g1, if_pos g2])
        have f1 : decide (a.form = 1) = false := by simp; omega
        have f2 : decide (a.form = 2) = true := by simp; omega
        have f3 : decide (a.form = 3) = false := by simp; omega
        have f4 : decide (a.form = 4) = false := by simp; omega
        have f1b : (a.form == 1) = false := by simp; omega
        have f2b : (a.form == 2) = true := by simp; omega
        have f3b : (a.form == 3) = false := by simp; omega
        have f4b : (a.form == 4) = false := by simp; omega
        clear g1 g2
        obtain ⟨v, next, er, hr⟩ : ∃ v next er, intR b q = (v, next, er) := ⟨_, _, _, rfl⟩
        rw [hr] at HVF
        dsimp only at HVF
        have HR := Lib.hid hr
        clear hr
        obtain ⟨c0a, c1a⟩ : wg.cell? ⟨gd, 0, none⟩ = some (.slice A0 n0 c0) ∧ wg.cell? ⟨gd, 1, none⟩ = some (.int .i64 q) := ⟨blk_at hV.rd 0 _ rfl, blk_at hV.rd 1 _ rfl⟩
        go_upto_region 11 with fail
        refine wp_region_X #[true, true, true, true, true, true, true, true, true, true, true, true, true, true, true, false, false, false, false] 15 4 (by kernel_rfl) rfl ?_
        refine wpX_vt 0 (.pointer (some ⟨gd, 0, none⟩)) rfl rfl (by kernel_rfl) (by kernel_rfl) (by kernel_rfl) (fun _ _ _ _ h => h) (by kernel_rfl) rfl (by rfl) (fun W' hW => by
          skip
          go_simp) ?_
        simp only [List.setIfInBounds_toArray, List.set_cons_zero, List.set_cons_succ]
        refine wpX_vt 1 (.pointer (some ⟨gd, 0, none⟩)) rfl rfl (by kernel_rfl) (by kernel_rfl) (by kernel_rfl) (fun _ _ _ _ h => h) (by kernel_rfl) rfl (by rfl) (fun W' hW => by
          skip
          go_simp) ?_
        simp only [List.setIfInBounds_toArray, List.set_cons_zero, List.set_cons_succ]
        refine wpX_vt 2 (.pointer (some ⟨gd, 0, none⟩)) rfl rfl (by kernel_rfl) (by kernel_rfl) (by kernel_rfl) (fun _ _ _ _ h => h) (by kernel_rfl) rfl (by rfl) (fun W' hW => by
          skip
          go_simp) ?_
        simp only [List.setIfInBounds_toArray, List.set_cons_zero, List.set_cons_succ]
        refine wpX_vt 3 (.pointer (some ⟨gd, 0, none⟩)) rfl rfl (by kernel_rfl) (by kernel_rfl) (by kernel_rfl) (fun _ _ _ _ h => h) (by kernel_rfl) rfl (by rfl) (fun W' hW => by
          skip
          go_simp) ?_
        simp only [List.setIfInBounds_toArray, List.set_cons_zero, List.set_cons_succ]
        refine wpX_vt 4 (.slice A0 n0 c0) rfl rfl (by kernel_rfl) (by kernel_rfl) (by kernel_rfl) (fun _ _ _ _ h => h) (by kernel_rfl) rfl (by rfl) (fun W' hW => by
          have z := (((Ext.refl wg).drew).trans hW).cell c0a
          go_simp) ?_
        simp only [List.setIfInBounds_toArray, List.set_cons_zero, List.set_cons_succ]
        refine wpX_vt 5 (.pointer (some ⟨gd, 0, none⟩)) rfl rfl (by kernel_rfl) (by kernel_rfl) (by kernel_rfl) (fun _ _ _ _ h => h) (by kernel_rfl) rfl (by rfl) (fun W' hW => by
          skip
          go_simp) ?_
        simp only [List.setIfInBounds_toArray, List.set_cons_zero, List.set_cons_succ]
        refine wpX_vt 6 (.pointer (some ⟨gd, 0, none⟩)) rfl rfl (by kernel_rfl) (by kernel_rfl) (by kernel_rfl) (fun _ _ _ _ h => h) (by kernel_rfl) rfl (by rfl) (fun W' hW => by
          skip
          go_simp) ?_
        simp only [List.setIfInBounds_toArray, List.set_cons_zero, List.set_cons_succ]
        refine wpX_vt 7 (.pointer (some ⟨gd, 0, none⟩)) rfl rfl (by kernel_rfl) (by kernel_rfl) (by kernel_rfl) (fun _ _ _ _ h => h) (by kernel_rfl) rfl (by rfl) (fun W' hW => by
          skip
          go_simp) ?_
        simp only [List.setIfInBounds_toArray, List.set_cons_zero, List.set_cons_succ]
        refine wpX_vt 8 (.pointer (some ⟨gd, 1, none⟩)) rfl rfl (by kernel_rfl) (by kernel_rfl) (by kernel_rfl) (fun _ _ _ _ h => h) (by kernel_rfl) rfl (by rfl) (fun W' hW => by
          skip
          go_simp) ?_
        simp only [List.setIfInBounds_toArray, List.set_cons_zero, List.set_cons_succ]
        refine wpX_vt 9 (.int .i64 q) rfl rfl (by kernel_rfl) (by kernel_rfl) (by kernel_rfl) (fun _ _ _ _ h => h) (by kernel_rfl) rfl (by rfl) (fun W' hW => by
          have z := (((Ext.refl wg).drew).trans hW).cell c1a
          go_simp) ?_
        simp only [List.setIfInBounds_toArray, List.set_cons_zero, List.set_cons_succ]
        refine wpX_c 10 58 #[.slice A0 n0 c0, .int .i64 q] rfl rfl (by kernel_rfl) rfl rfl (fun W => by go_simp) ?_
        intro W1 hW1
        have hX1 := ((Ext.refl wg).drew).trans hW1
        have hx1 : InB W1 (.slice A0 n0 c0) b := (HX.out wg hV.kept).ext hX1
        refine (Int_any _ b q W1 hx1 (by omega)).mono ?_
        rw [HR.out]
        rintro en w8 ⟨rfl, he8⟩
        refine ⟨_, rfl, he8, ?_⟩
        skip
        simp only [List.setIfInBounds_toArray, List.set_cons_zero, List.set_cons_succ]
        refine wpX_vt 11 (.tuple #[.int .i64 v, .int .i64 next, .int .i64 er]) rfl rfl (by kernel_rfl) (by kernel_rfl) (by kernel_rfl) (fun _ _ _ _ h => h) (by kernel_rfl) rfl (by rfl) (fun W' hW => by
          skip
          go_simp) ?_
        simp only [List.setIfInBounds_toArray, List.set_cons_zero, List.set_cons_succ]
        refine wpX_vt 12 (.int .i64 v) rfl rfl (by kernel_rfl) (by kernel_rfl) (by kernel_rfl) (fun _ _ _ _ h => h) (by kernel_rfl) rfl (by rfl) (fun W' hW => by
          skip
          go_simp) ?_
        simp only [List.setIfInBounds_toArray, List.set_cons_zero, List.set_cons_succ]
        refine wpX_l 13 (.int .i64 next) rfl rfl (by kernel_rfl) (by kernel_rfl) (by kernel_rfl) (fun _ _ _ _ h => h) (LateOK_any rfl (by kernel_rfl) (fun _ _ _ h => h)) rfl (by rfl) (fun W' => by go_simp) ?_
        simp only [List.setIfInBounds_toArray, List.set_cons_zero, List.set_cons_succ]
        refine wpX_l 14 (.int .i64 er) rfl rfl (by kernel_rfl) (by kernel_rfl) (by kernel_rfl) (fun _ _ _ _ h => h) (LateOK_any rfl (by kernel_rfl) (fun _ _ _ h => h)) rfl (by rfl) (fun W' => by go_simp) ?_
        simp only [List.setIfInBounds_toArray, List.set_cons_zero, List.set_cons_succ]
        refine wpX_end rfl fun W9 hW9 => tail_seq 15 rfl (by kernel_rfl) ?_
        simp only [List.drop_succ_cons, List.drop_zero]
        have hX9 := (hX1.trans he8).trans hW9
        have hV9 := hV.ext hX9
        have hG9 := hX9.heap hGa
        clear hW1 hX1 hW9 he8 c0a c1a hx1 hV hGa hX9 r0 r1 r2 r3
        have hVb := hV9.put hne hgl 2 (.int .i64 v)
        have hGb := blk_set hG9 2 (.int .i64 v)
        simp only [List.setIfInBounds_toArray, List.set_cons_succ, List.set_cons_zero] at hGb
        obtain ⟨r0, r1, r2, r3⟩ := blkR hG9
        have f2 := blk_free hG9 2
        have hltg := heap_lt hG9
        go_upto_region 12 with fail
        refine NoPanic.normal ?_
        clear r0 r1 r2 r3 f2 hltg hG9 hV9
        generalize W9.setCell ⟨ga, 2, none⟩ (.int .i64 v) = wb at *
        obtain ⟨r0, r1, r2, r3⟩ := blkR hGb
        by_cases h0 : er = 0
        case neg =>
          have HPF : Hid (valsD b ats [] p = .error er) := Lib.hid (by rw [HDN.out, HVF.out, if_pos h0])
          have e0 : (er != 0) = true := by simpa using h0
          have e1 : (er == 0) = false := by simpa using h0
          have HE0 := Lib.hid h0
          have hK := hVb.kept
          clear h0 hVb hGb
          go_wp2_with fail
          refine bodyPost_ret (by simp [results, Try.results53, go_sem]; rfl) rfl ?_
          rw [HPF.out]
          exact ⟨rfl, HE0.out, hK⟩
        have HVD : Hid (valD a b q = .ok (⟨a.name, a.form, v, a.text⟩, next)) := Lib.hid (by rw [HVF.out, if_neg (by simpa using h0)])
        have e0 : (er != 0) = false := by simpa using h0
        have e1 : (er == 0) = true := by simpa using h0
        have hV := hVb.at_ next
        have hGa := blk_grown hGb (gset wb ⟨gd, 1, none⟩ (.int .i64 next)) (fun e => hgg (by injection e with e; exact e.symm))
        obtain ⟨s0, s1, s2⟩ : wb.cell? ⟨gd, 1, none⟩ = some (.int .i64 q) ∧ wb.frozen? ⟨gd, 1, none⟩ = false ∧ gd < wb.heap.size := ⟨blk_at hVb.rd 1 _ rfl, blk_free hVb.rd 1, heap_lt hVb.rd⟩
        clear h0 hVb hGb
        go_upto_region 23 with fail
        clear r0 r1 r2 r3 s0 s1 s2
        generalize wb.setCell ⟨gd, 1, none⟩ (.int .i64 next) = w3 at *
        obtain ⟨att, hatt⟩ : ∃ z : Att, z = ⟨a.name, a.form, v, a.text⟩ := ⟨_, rfl⟩
        have HPN : Hid (valsD b ats [] p = valsD b (ats.drop (k + 1)) (l ++ [att]) next) := Lib.hid (by
          rw [HDN.out, HVD.out, hatt])
        have hldt := run_loadAt_blk (P := Try.prog) w3 ga 40 40 _ (0, 0) _ hGa Try.underlying40 rfl at_size
        have hA5 := (Ext.refl w3).alloc (.cells #[.int .i64 a.name, .int .i64 a.form, .int .i64 v, .string a.text] 40)
        have hin5 : InR attCells (w3.alloc (.cells #[.int .i64 a.name, .int .i64 a.form, .int .i64 v, .string a.text] 40)) (.slice (some ⟨w3.heap.size, 0, none⟩) 1 1) [att] := by rw [hatt]; exact (OwnR_one (f := attCells) w3 ⟨a.name, a.form, v, a.text⟩ rfl 40).inR
        have hone : ∀ z ∈ [att], ∀ u ∈ attCells z, u.oneCell' = true := fun z hz u hu => by
          simp only [List.mem_singleton] at hz
          subst hz
          simp only [attCells, List.mem_cons, List.not_mem_nil, or_false] at hu
          rcases hu with rfl | rfl | rfl | rfl <;> rfl
        have hVd := hV.ext hA5
        have hszd : w.heap.size ≤ (w3.alloc (.cells #[.int .i64 a.name, .int .i64 a.form, .int .i64 v, .string a.text] 40)).heap.size := hVd.kept.size
        clear hatt hV
        go_wp2_with first | refine wpList_load_run rfl 40 (.tmp 8) rfl _ _ rfl hldt ?_ | refine wpList_rowOne elem_at rfl (.tmp 91) rfl #[.int .i64 a.name, .int .i64 a.form, .int .i64 v, .string a.text] rfl rfl (by omega) ?_ | (at_builtin; go_must (refine wpList_appendR elem_at rfl (.tmp 90) (.tmp 92) rfl w.heap.size _ l rfl hVd.own _ [att] rfl hin5 (fun _ _ => rfl) hone (by simp only [List.length_cons, List.length_nil]; omega) (by omega) hszd (Hold.out ?_)))
        refine Hold.mk fun v9 w9 ho9 hg9 => ?_
        have hV9 : VL w gd (.slice A0 n0 c0) C next v9 (l ++ [att]) w9 := ⟨ho9, blk_grown hVd.rd hg9.grown (fun e => hVd.own.ne_blk hVd.rd (by decide) e.symm), hVd.kept.trans (Kept.of_grown hg9.grown hVd.kept.size (fun k e => .inl (hVd.own.ge k e))), hVd.low⟩
        have HKN : Hid ((l ++ [att]).length = k + 1) := Lib.hid (by rw [List.length_append, HK.out]; rfl)
        clear ho9 hg9 hVd hldt hA5 hin5 hone hszd hGa
        go_wp2_with fail
        go_roundw
        case rel => exact ⟨k + 1, l ++ [att], next, by omega, by first | (with_reducible rfl) | go_num, HKN, HPN, hV9⟩
        case measure => simp [intOf]; omega
      by_cases g3 : a.form = 3
      case pos =>
        have HVF : Hid (valD a b q = if 40 < (textR b q).1.length then .error 5 else if (textR b q).2.2 ≠ 0 then .error (textR b q).2.2 else .ok (⟨a.name, a.form, a.value, ⟨(textR b q).1.toArray⟩⟩, (textR b q).2.1)) := Lib.hid (by unfold valD; rw [if_neg g1, if_neg g2, if_pos g3])
        have f1 : decide (a.form = 1) = false := by simp; omega
        have f2 : decide (a.form = 2) = false := by simp; omega
        have f3 : decide (a.form = 3) = true := by simp; omega
        have f4 : decide (a.form = 4) = false := by simp; omega
        have f1b : (a.form == 1) = false := by simp; omega
        have f2b : (a.form == 2) = false := by simp; omega
        have f3b : (a.form == 3) = true := by simp; omega
        have f4b : (a.form == 4) = false := by simp; omega
        clear g1 g2 g3
        obtain ⟨tl, next, er, hr⟩ : ∃ tl next er, textR b q = (tl, next, er) := ⟨_, _, _, rfl⟩
        have hte : er ≠ 0 → tl.length = 0 := fun h => by
          have h1 := textR_err (b := b) (p := q) (by rw [hr]; exact h)
          rw [hr] at h1
          simp only at h1
          rw [h1]
          rfl
        rw [hr] at HVF
        dsimp only at HVF
        have HR := Lib.hid hr
        clear hr
        obtain ⟨tx, htx⟩ : ∃ tx : ByteArray, tx = ⟨tl.toArray⟩ := ⟨_, rfl⟩
        have hts : tx.size = tl.length := by rw [htx]; simp [ByteArray.size]
        rw [← htx] at HVF
        rw [← hts] at HVF hte
        have HTX := Lib.hid htx
        have htl : tx.size ≤ 1000000 := by
          have h1 : (textR b q).1.length ≤ b.length := textR_len b q
          rw [HR.out] at h1
          dsimp only at h1
          omega
        clear htx hts
        obtain ⟨c0a, c1a⟩ : wg.cell? ⟨gd, 0, none⟩ = some (.slice A0 n0 c0) ∧ wg.cell? ⟨gd, 1, none⟩ = some (.int .i64 q) := ⟨blk_at hV.rd 0 _ rfl, blk_at hV.rd 1 _ rfl⟩
        go_upto_region 16 with fail
        refine wp_region_X #[true, true, true, true, true, true, true, true, true, true, true, true, true, true, true, false, false, false, false] 15 4 (by kernel_rfl) rfl ?_
        refine wpX_vt 0 (.pointer (some ⟨gd, 0, none⟩)) rfl rfl (by kernel_rfl) (by kernel_rfl) (by kernel_rfl) (fun _ _ _ _ h => h) (by kernel_rfl) rfl (by rfl) (fun W' hW => by
          skip
          go_simp) ?_
        simp only [List.setIfInBounds_toArray, List.set_cons_zero, List.set_cons_succ]
        refine wpX_vt 1 (.pointer (some ⟨gd, 0, none⟩)) rfl rfl (by kernel_rfl) (by kernel_rfl) (by kernel_rfl) (fun _ _ _ _ h => h) (by kernel_rfl) rfl (by rfl) (fun W' hW => by
          skip
          go_simp) ?_
        simp only [List.setIfInBounds_toArray, List.set_cons_zero, List.set_cons_succ]
        refine wpX_vt 2 (.pointer (some ⟨gd, 0, none⟩)) rfl rfl (by kernel_rfl) (by kernel_rfl) (by kernel_rfl) (fun _ _ _ _ h => h) (by kernel_rfl) rfl (by rfl) (fun W' hW => by
          skip
          go_simp) ?_
        simp only [List.setIfInBounds_toArray, List.set_cons_zero, List.set_cons_succ]
        refine wpX_vt 3 (.pointer (some ⟨gd, 0, none⟩)) rfl rfl (by kernel_rfl) (by kernel_rfl) (by kernel_rfl) (fun _ _ _ _ h => h) (by kernel_rfl) rfl (by rfl) (fun W' hW => by
          skip
          go_simp) ?_
        simp only [List.setIfInBounds_toArray, List.set_cons_zero, List.set_cons_succ]
        refine wpX_vt 4 (.slice A0 n0 c0) rfl rfl (by kernel_rfl) (by kernel_rfl) (by kernel_rfl) (fun _ _ _ _ h => h) (by kernel_rfl) rfl (by rfl) (fun W' hW => by
          have z := (((Ext.refl wg).drew).trans hW).cell c0a
          go_simp) ?_
        simp only [List.setIfInBounds_toArray, List.set_cons_zero, List.set_cons_succ]
        refine wpX_vt 5 (.pointer (some ⟨gd, 0, none⟩)) rfl rfl (by kernel_rfl) (by kernel_rfl) (by kernel_rfl) (fun _ _ _ _ h => h) (by kernel_rfl) rfl (by rfl) (fun W' hW => by
          skip
          go_simp) ?_
        simp only [List.setIfInBounds_toArray, List.set_cons_zero, List.set_cons_succ]
        refine wpX_vt 6 (.pointer (some ⟨gd, 0, none⟩)) rfl rfl (by kernel_rfl) (by kernel_rfl) (by kernel_rfl) (fun _ _ _ _ h => h) (by kernel_rfl) rfl (by rfl) (fun W' hW => by
          skip
          go_simp) ?_
        simp only [List.setIfInBounds_toArray, List.set_cons_zero, List.set_cons_succ]
        refine wpX_vt 7 (.pointer (some ⟨gd, 0, none⟩)) rfl rfl (by kernel_rfl) (by kernel_rfl) (by kernel_rfl) (fun _ _ _ _ h => h) (by kernel_rfl) rfl (by rfl) (fun W' hW => by
          skip
          go_simp) ?_
        simp only [List.setIfInBounds_toArray, List.set_cons_zero, List.set_cons_succ]
        refine wpX_vt 8 (.pointer (some ⟨gd, 1, none⟩)) rfl rfl (by kernel_rfl) (by kernel_rfl) (by kernel_rfl) (fun _ _ _ _ h => h) (by kernel_rfl) rfl (by rfl) (fun W' hW => by
          skip
          go_simp) ?_
        simp only [List.setIfInBounds_toArray, List.set_cons_zero, List.set_cons_succ]
        refine wpX_vt 9 (.int .i64 q) rfl rfl (by kernel_rfl) (by kernel_rfl) (by kernel_rfl) (fun _ _ _ _ h => h) (by kernel_rfl) rfl (by rfl) (fun W' hW => by
          have z := (((Ext.refl wg).drew).trans hW).cell c1a
          go_simp) ?_
        simp only [List.setIfInBounds_toArray, List.set_cons_zero, List.set_cons_succ]
        refine wpX_c 10 59 #[.slice A0 n0 c0, .int .i64 q] rfl rfl (by kernel_rfl) rfl rfl (fun W => by go_simp) ?_
        intro W1 hW1
        have hX1 := ((Ext.refl wg).drew).trans hW1
        have hx1 : InB W1 (.slice A0 n0 c0) b := (HX.out wg hV.kept).ext hX1
        refine (Text_any _ b q W1 hx1 (by omega)).mono ?_
        rw [HR.out]
        rintro en w8 ⟨rfl, he8⟩
        refine ⟨_, rfl, he8, ?_⟩
        rw [← HTX.out]
        simp only [List.setIfInBounds_toArray, List.set_cons_zero, List.set_cons_succ]
        refine wpX_vt 11 (.tuple #[.string tx, .int .i64 next, .int .i64 er]) rfl rfl (by kernel_rfl) (by kernel_rfl) (by kernel_rfl) (fun _ _ _ _ h => h) (by kernel_rfl) rfl (by rfl) (fun W' hW => by
          skip
          go_simp) ?_
        simp only [List.setIfInBounds_toArray, List.set_cons_zero, List.set_cons_succ]
        refine wpX_vt 12 (.string tx) rfl rfl (by kernel_rfl) (by kernel_rfl) (by kernel_rfl) (fun _ _ _ _ h => h) (by kernel_rfl) rfl (by rfl) (fun W' hW => by
          skip
          go_simp) ?_
        simp only [List.setIfInBounds_toArray, List.set_cons_zero, List.set_cons_succ]
        refine wpX_l 13 (.int .i64 next) rfl rfl (by kernel_rfl) (by kernel_rfl) (by kernel_rfl) (fun _ _ _ _ h => h) (LateOK_any rfl (by kernel_rfl) (fun _ _ _ h => h)) rfl (by rfl) (fun W' => by go_simp) ?_
        simp only [List.setIfInBounds_toArray, List.set_cons_zero, List.set_cons_succ]
        refine wpX_l 14 (.int .i64 er) rfl rfl (by kernel_rfl) (by kernel_rfl) (by kernel_rfl) (fun _ _ _ _ h => h) (LateOK_any rfl (by kernel_rfl) (fun _ _ _ h => h)) rfl (by rfl) (fun W' => by go_simp) ?_
        simp only [List.setIfInBounds_toArray, List.set_cons_zero, List.set_cons_succ]
        refine wpX_end rfl fun W9 hW9 => tail_seq 15 rfl (by kernel_rfl) ?_
        simp only [List.drop_succ_cons, List.drop_zero]
        have hX9 := (hX1.trans he8).trans hW9
        have hV9 := hV.ext hX9
        have hG9 := hX9.heap hGa
        clear hW1 hX1 hW9 he8 c0a c1a hx1 hV hGa hX9 r0 r1 r2 r3
        have hVb := hV9.put hne hgl 3 (.string tx)
        have hGb := blk_set hG9 3 (.string tx)
        simp only [List.setIfInBounds_toArray, List.set_cons_succ, List.set_cons_zero] at hGb
        obtain ⟨r0, r1, r2, r3⟩ := blkR hG9
        have f2 := blk_free hG9 3
        have hltg := heap_lt hG9
        go_upto_region 17 with fail
        refine NoPanic.normal ?_
        clear r0 r1 r2 r3 f2 hltg hG9 hV9
        generalize W9.setCell ⟨ga, 3, none⟩ (.string tx) = wb at *
        obtain ⟨r0, r1, r2, r3⟩ := blkR hGb
        by_cases h40 : 40 < tx.size
        case pos =>
          have HPF : Hid (valsD b ats [] p = .error 5) := Lib.hid (by rw [HDN.out, HVF.out, if_pos h40])
          have h0 : er = 0 := Classical.byContradiction fun h => by have := hte h; omega
          have d40 : decide ((40 : Int) < (tx.size : Int)) = true := by simp; omega
          have e1 : (er == 0) = true := by simpa using h0
          have HE0 : Hid ((5 : Int) ≠ 0) := Lib.hid (by decide)
          have hK := (hVb.at_ next).kept
          obtain ⟨s0, s1, s2⟩ : wb.cell? ⟨gd, 1, none⟩ = some (.int .i64 q) ∧ wb.frozen? ⟨gd, 1, none⟩ = false ∧ gd < wb.heap.size := ⟨blk_at hVb.rd 1 _ rfl, blk_free hVb.rd 1, heap_lt hVb.rd⟩
          clear h0 hVb hGb hte h40
          go_wp2_with fail
          refine bodyPost_ret (by simp [results, Try.results53, go_sem]; rfl) rfl ?_
          rw [HPF.out]
          exact ⟨rfl, HE0.out, hK⟩
        have d40 : decide ((40 : Int) < (tx.size : Int)) = false := by simp; omega
        by_cases h0 : er = 0
        case neg =>
          have HPF : Hid (valsD b ats [] p = .error er) := Lib.hid (by rw [HDN.out, HVF.out, if_neg h40, if_pos h0])
          have e0 : (er != 0) = true := by simpa using h0
          have e1 : (er == 0) = false := by simpa using h0
          have HE0 := Lib.hid h0
          have hK := hVb.kept
          clear h0 hVb hGb hte h40
          go_wp2_with fail
          refine bodyPost_ret (by simp [results, Try.results53, go_sem]; rfl) rfl ?_
          rw [HPF.out]
          exact ⟨rfl, HE0.out, hK⟩
        have HVD : Hid (valD a b q = .ok (⟨a.name, a.form, a.value, tx⟩, next)) := Lib.hid (by rw [HVF.out, if_neg h40, if_neg (by simpa using h0)])
        have e0 : (er != 0) = false := by simpa using h0
        have e1 : (er == 0) = true := by simpa using h0
        have hV := hVb.at_ next
        have hGa := blk_grown hGb (gset wb ⟨gd, 1, none⟩ (.int .i64 next)) (fun e => hgg (by injection e with e; exact e.symm))
        obtain ⟨s0, s1, s2⟩ : wb.cell? ⟨gd, 1, none⟩ = some (.int .i64 q) ∧ wb.frozen? ⟨gd, 1, none⟩ = false ∧ gd < wb.heap.size := ⟨blk_at hVb.rd 1 _ rfl, blk_free hVb.rd 1, heap_lt hVb.rd⟩
        clear h0 hVb hte h40
        go_upto_region 19 with fail
        clear r0 r1 r2 r3 s0 s1 s2 hGb
        generalize wb.setCell ⟨gd, 1, none⟩ (.int .i64 next) = w3 at *
        obtain ⟨r0, r1, r2, r3⟩ := blkR hGa
        go_upto_region 23 with fail
        clear r0 r1 r2 r3
        obtain ⟨att, hatt⟩ : ∃ z : Att, z = ⟨a.name, a.form, a.value, tx⟩ := ⟨_, rfl⟩
        have HPN : Hid (valsD b ats [] p = valsD b (ats.drop (k + 1)) (l ++ [att]) next) := Lib.hid (by
          rw [HDN.out, HVD.out, hatt])
        have hldt := run_loadAt_blk (P := Try.prog) w3 ga 40 40 _ (0, 0) _ hGa Try.underlying40 rfl at_size
        have hA5 := (Ext.refl w3).alloc (.cells #[.int .i64 a.name, .int .i64 a.form, .int .i64 a.value, .string tx] 40)
        have hin5 : InR attCells (w3.alloc (.cells #[.int .i64 a.name, .int .i64 a.form, .int .i64 a.value, .string tx] 40)) (.slice (some ⟨w3.heap.size, 0, none⟩) 1 1) [att] := by rw [hatt]; exact (OwnR_one (f := attCells) w3 ⟨a.name, a.form, a.value, tx⟩ rfl 40).inR
        have hone : ∀ z ∈ [att], ∀ u ∈ attCells z, u.oneCell' = true := fun z hz u hu => by
          simp only [List.mem_singleton] at hz
          subst hz
          simp only [attCells, List.mem_cons, List.not_mem_nil, or_false] at hu
          rcases hu with rfl | rfl | rfl | rfl <;> rfl
        have hVd := hV.ext hA5
        have hszd : w.heap.size ≤ (w3.alloc (.cells #[.int .i64 a.name, .int .i64 a.form, .int .i64 a.value, .string tx] 40)).heap.size := hVd.kept.size
        clear hatt hV
        go_wp2_with first | refine wpList_load_run rfl 40 (.tmp 8) rfl _ _ rfl hldt ?_ | refine wpList_rowOne elem_at rfl (.tmp 91) rfl #[.int .i64 a.name, .int .i64 a.form, .int .i64 a.value, .string tx] rfl rfl (by omega) ?_ | (at_builtin; go_must (refine wpList_appendR elem_at rfl (.tmp 90) (.tmp 92) rfl w.heap.size _ l rfl hVd.own _ [att] rfl hin5 (fun _ _ => rfl) hone (by simp only [List.length_cons, List.length_nil]; omega) (by omega) hszd (Hold.out ?_)))
        refine Hold.mk fun v9 w9 ho9 hg9 => ?_
        have hV9 : VL w gd (.slice A0 n0 c0) C next v9 (l ++ [att]) w9 := ⟨ho9, blk_grown hVd.rd hg9.grown (fun e => hVd.own.ne_blk hVd.rd (by decide) e.symm), hVd.kept.trans (Kept.of_grown hg9.grown hVd.kept.size (fun k e => .inl (hVd.own.ge k e))), hVd.low⟩
        have HKN : Hid ((l ++ [att]).length = k + 1) := Lib.hid (by rw [List.length_append, HK.out]; rfl)
        clear ho9 hg9 hVd hldt hA5 hin5 hone hszd hGa
        go_wp2_with fail
        go_roundw
        case rel => exact ⟨k + 1, l ++ [att], next, by omega, by first | (with_reducible rfl) | go_num, HKN, HPN, hV9⟩
        case measure => simp [intOf]; omega
      have g4 : a.form = 4 := by omega
      have HVD : Hid (valD a b q = .ok (⟨a.name, a.form, 1, a.text⟩, q)) := Lib.hid (by unfold valD; rw [if_neg g1, if_neg g2, if_neg g3])
      have f1 : decide (a.form = 1) = false := by simp; omega
      have f2 : decide (a.form = 2) = false := by simp; omega
      have f3 : decide (a.form = 3) = false := by simp; omega
      have f4 : decide (a.form = 4) = true := by simp; omega
      have f1b : (a.form == 1) = false := by simp; omega
      have f2b : (a.form == 2) = false := by simp; omega
      have f3b : (a.form == 3) = false := by simp; omega
      have f4b : (a.form == 4) = true := by simp; omega
      have hVb := hV.put hne hgl 2 (.int .i64 1)
      have hGb := blk_set hGa 2 (.int .i64 1)
      simp only [List.setIfInBounds_toArray, List.set_cons_succ, List.set_cons_zero] at hGb
      have f2 := blk_free hGa 2
      have hltg := heap_lt hGa
      clear g1 g2 g3 g4
      go_upto_region 23 with fail
      clear r0 r1 r2 r3 f2 hltg hV hGa
      have hV := hVb
      have hGa := hGb
      clear hVb hGb
      generalize wg.setCell ⟨ga, 2, none⟩ (.int .i64 1) = w3 at *
      obtain ⟨att, hatt⟩ : ∃ z : Att, z = ⟨a.name, a.form, 1, a.text⟩ := ⟨_, rfl⟩
      have HPN : Hid (valsD b ats [] p = valsD b (ats.drop (k + 1)) (l ++ [att]) q) := Lib.hid (by
        rw [HDN.out, HVD.out, hatt])
      have hldt := run_loadAt_blk (P := Try.prog) w3 ga 40 40 _ (0, 0) _ hGa Try.underlying40 rfl at_size
      have hA5 := (Ext.refl w3).alloc (.cells #[.int .i64 a.name, .int .i64 a.form, .int .i64 1, .string a.text] 40)
      have hin5 : InR attCells (w3.alloc (.cells #[.int .i64 a.name, .int .i64 a.form, .int .i64 1, .string a.text] 40)) (.slice (some ⟨w3.heap.size, 0, none⟩) 1 1) [att] := by rw [hatt]; exact (OwnR_one (f := attCells) w3 ⟨a.name, a.form, 1, a.text⟩ rfl 40).inR
      have hone : ∀ z ∈ [att], ∀ u ∈ attCells z, u.oneCell' = true := fun z hz u hu => by
        simp only [List.mem_singleton] at hz
        subst hz
        simp only [attCells, List.mem_cons, List.not_mem_nil, or_false] at hu
        rcases hu with rfl | rfl | rfl | rfl <;> rfl
      have hVd := hV.ext hA5
      have hszd : w.heap.size ≤ (w3.alloc (.cells #[.int .i64 a.name, .int .i64 a.form, .int .i64 1, .string a.text] 40)).heap.size := hVd.kept.size
      clear hatt hV
      go_wp2_with first | refine wpList_load_run rfl 40 (.tmp 8) rfl _ _ rfl hldt ?_ | refine wpList_rowOne elem_at rfl (.tmp 91) rfl #[.int .i64 a.name, .int .i64 a.form, .int .i64 1, .string a.text] rfl rfl (by omega) ?_ | (at_builtin; go_must (refine wpList_appendR elem_at rfl (.tmp 90) (.tmp 92) rfl w.heap.size _ l rfl hVd.own _ [att] rfl hin5 (fun _ _ => rfl) hone (by simp only [List.length_cons, List.length_nil]; omega) (by omega) hszd (Hold.out ?_)))
      refine Hold.mk fun v9 w9 ho9 hg9 => ?_
      have hV9 : VL w gd (.slice A0 n0 c0) C q v9 (l ++ [att]) w9 := ⟨ho9, blk_grown hVd.rd hg9.grown (fun e => hVd.own.ne_blk hVd.rd (by decide) e.symm), hVd.kept.trans (Kept.of_grown hg9.grown hVd.kept.size (fun k e => .inl (hVd.own.ge k e))), hVd.low⟩
      have HKN : Hid ((l ++ [att]).length = k + 1) := Lib.hid (by rw [List.length_append, HK.out]; rfl)
      clear ho9 hg9 hVd hldt hA5 hin5 hone hszd hGa
      go_wp2_with fail
      go_roundw
      case rel => exact ⟨k + 1, l ++ [att], q, by omega, by first | (with_reducible rfl) | go_num, HKN, HPN, hV9⟩
      case measure => simp [intOf]; omega
    · have hik : ¬ (k : Int) < (n : Int) := by omega
      have HPF : Hid (valsD b ats [] p = .ok (l, q)) := Lib.hid (by
        rw [HD.out, List.drop_of_length_le (by have := HN.out; omega)]
        rfl)
      go_wp2_with fail
      refine bodyPost_ret (by simp [results, Try.results53, go_sem]; rfl) rfl ?_
      rw [HPF.out]
      exact ⟨_, rfl, hV⟩
end Go.Proofs.Ytopanbcodfkedaa
