/- The walks of the specification's shapeOf, same and value. -/
import Derived.Test.YtopanbcodfkedaaInfF
import Derived.Test.YtopanbcodfkedaaWireR
namespace Go.Proofs.Ytopanbcodfkedaa
open Go.RowKit
set_option linter.unusedVariables false
set_option linter.unusedSimpArgs false

theorem in_info : (Try.prog.info? 3).map (fun i => (i.zero, i.size, i.bytes)) = some (some (.int .i64 0), 1, 8) := by kernel_rfl
theorem elem_in : Elem1 Try.prog 23 3 8 := by
  rcases hi : Try.prog.info? 3 with _ | i
  · have := in_info; rw [hi] at this; cases this
  · have := in_info
    rw [hi] at this
    simp only [Option.map_some, Option.some.injEq, Prod.mk.injEq] at this
    exact ⟨Try.underlying23, i, _, hi, this.1, this.2.1, this.2.2, rfl⟩
theorem OwnV_two (w : World) (a b : Int) : OwnV iv 3 w.heap.size (w.alloc (.cells #[.int .i64 a, .int .i64 b] 3)) (.slice (some ⟨w.heap.size, 0, none⟩) 2 2) [a, b] :=
  ⟨by simp, .inr ⟨w.heap.size, 2, #[.int .i64 a, .int .i64 b], rfl, Nat.le_refl _, heap_alloc_new w _, Nat.le_refl _, by decide, by simp, by simp [iv]⟩⟩
theorem OwnV_three (w : World) (a b c : Int) : OwnV iv 3 w.heap.size (w.alloc (.cells #[.int .i64 a, .int .i64 b, .int .i64 c] 3)) (.slice (some ⟨w.heap.size, 0, none⟩) 3 3) [a, b, c] :=
  ⟨by simp, .inr ⟨w.heap.size, 3, #[.int .i64 a, .int .i64 b, .int .i64 c], rfl, Nat.le_refl _, heap_alloc_new w _, Nat.le_refl _, by decide, by simp, by simp [iv]⟩⟩
/-- a shape as the specification has it -/
structure RSh where
  tag : Int
  kids : Int
  names : List Int
def rshCells (z : RSh × Value) : List Value := [.int .i64 z.1.tag, .int .i64 z.1.kids, z.2]
theorem sh_size : (Try.prog.info? 69).map (·.size) = some 3 := by kernel_rfl
theorem sh_info : (Try.prog.info? 69).map (fun i => (i.zero, i.size, i.bytes)) = some (some (.agg #[.int .i64 0, .int .i64 0, .slice none 0 0]), 3, 40) := by kernel_rfl
theorem elem_sh : ElemN Try.prog 67 69 3 40 := by
  rcases hi : Try.prog.info? 69 with _ | i
  · have := sh_info; rw [hi] at this; cases this
  · have := sh_info
    rw [hi] at this
    simp only [Option.map_some, Option.some.injEq, Prod.mk.injEq] at this
    exact ⟨Try.underlying67, by omega, i, _, hi, this.1, this.2.1, this.2.2, rfl⟩
theorem sh_load {w : World} {b o : Nat} {t : RSh} {y : Value} (h : w.rangeAt b o (rshCells (t, y))) : (Instr.loadAt 69 (.pointer (some ⟨b, o, none⟩))).run Try.prog w = .ok (.agg #[.int .i64 t.tag, .int .i64 t.kids, y]) w :=
  run_loadAt_mid (P := Try.prog) w b o 69 _ _ h Try.underlying69 rfl (by kernel_rfl)
def rshOf (e : Ent) (k : Bool) : RSh := ⟨e.tag, if k then 1 else 0, attsN e.attrs⟩
def ShapePst (s : RSh) (w : World) (en : Ending) (w' : World) : Prop := ∃ y, en = .returned (.agg #[.int .i64 s.tag, .int .i64 s.kids, y]) ∧ OwnV iv 3 w.heap.size w' y s.names ∧ Ext w w'
set_option maxHeartbeats 40000000 in
set_option maxRecDepth 100000 in
theorem refShapeOf_any (l : List Ent) (v : Value) (j : Nat) (hj : j < l.length) (w : World) (hv : Ents w v l) (hok : okAtts l[j].attrs) (hd : ∀ e ∈ l, 0 ≤ e.depth ∧ e.depth ≤ 32) (hl : l.length ≤ 4000) :
    Calls Try.prog 26 #[v, .int .i64 (j : Int)] w (ShapePst (rshOf l[j] (decide (l[j].depth < headD (l.drop (j + 1))))) w) := by
  obtain ⟨A, c, rfl⟩ := hv.form
  obtain ⟨n, hn⟩ : ∃ n, n = l.length := ⟨_, rfl⟩
  have hjn : j < n := by rw [hn]; exact hj
  have hnl : n ≤ 4000 := by rw [hn]; exact hl
  rw [← hn] at hv ⊢
  obtain ⟨bb, oo, y, hAe, hra, hat⟩ := hv.at_ hj
  subst hAe
  obtain ⟨kb, hkb⟩ : ∃ kb, kb = decide (l[j].depth < headD (l.drop (j + 1))) := ⟨_, rfl⟩
  rw [← hkb]
  have hdj := hd _ (List.getElem_mem hj)
  have HNX : Hid (j + 1 < n → ∃ (f : Ent) (z : Value), (kb = decide (l[j].depth < f.depth)) ∧ w.rangeAt bb (oo + (j + 1) * 3) (entCells (f, z))) := Lib.hid (fun h => by
    have h' : j + 1 < l.length := by rw [← hn]; exact h
    obtain ⟨b3, o3, y3, he, hr3, _⟩ := hv.at_ h'
    injection he with he
    injection he with e1 e2 _
    subst e1 e2
    exact ⟨l[j + 1], y3, by rw [hkb, headD_drop h'], hr3⟩)
  have HLA : Hid (¬ j + 1 < n → kb = false) := Lib.hid (fun h => by
    rw [hkb, List.drop_of_length_le (by omega)]
    exact decide_eq_false (by show ¬ l[j].depth < 0; omega))
  clear hkb hd hl hn
  generalize l[j] = e at *
  clear hj
  obtain ⟨A2, c2, rfl, _⟩ := id hat
  obtain ⟨n2, hn2⟩ : ∃ n, n = e.attrs.length := ⟨_, rfl⟩
  have hn12 : n2 ≤ 12 := by rw [hn2]; exact hok.1
  rw [← hn2] at hat hra
  have HN2 := Lib.hid hn2
  have HY := Lib.hid hat
  have HO := Lib.hid hok.2.1
  clear hn2 hat hok hv
  have hc0 : w.cell? ⟨bb, oo + j * 3, none⟩ = some (.int .i64 e.depth) := by simpa using hra 0 _ rfl
  have hc1 : w.cell? ⟨bb, oo + j * 3 + 1, none⟩ = some (.int .i64 e.tag) := by simpa using hra 1 _ rfl
  have hc2 : w.cell? ⟨bb, oo + j * 3 + 2, none⟩ = some (.slice A2 n2 c2) := by simpa using hra 2 _ rfl
  have hij : (j : Int) < (n : Int) := by omega
  go_enter Try.func26, Try.ntmps26
  go_upto_region 1 with fail
  have hE0 := (Ext.refl w).alloc (.cells #[.int .i64 0, .int .i64 0, .slice none 0 0] 69)
  have hB0 := heap_alloc_new w (.cells #[.int .i64 0, .int .i64 0, .slice none 0 0] 69)
  obtain ⟨g4, hg4⟩ : ∃ g, g = w.heap.size := ⟨_, rfl⟩
  have hl4 : w.heap.size ≤ g4 := by omega
  rw [← hg4] at hB0 ⊢
  clear hg4
  generalize w.alloc (.cells #[.int .i64 0, .int .i64 0, .slice none 0 0] 69) = W0 at *
  have d0 := hE0.cell hc0
  have d1 := hE0.cell hc1
  have d2 := hE0.cell hc2
  obtain ⟨hst, hG, hXG⟩ := box_new (P := Try.prog) W0 69 #[.int .i64 0, .int .i64 0, .slice none 0 0] #[.int .i64 e.tag, .int .i64 0, .slice none 0 0] sh_size rfl (by simp [Value.oneCell'])
  have hcA := ((Ext.refl W0).alloc (.cells #[.int .i64 0, .int .i64 0, .slice none 0 0] 69)).cell d1
  go_upto_region 2 with first | refine wpList_store_run rfl 69 (.tmp 5) (.tmp 13) rfl _ _ _ rfl rfl hst ?_
  obtain ⟨g5, hg5⟩ : ∃ g, g = W0.heap.size := ⟨_, rfl⟩
  have hl5 : w.heap.size ≤ g5 := by have := hE0.size; omega
  have hB4 := hXG.heap hB0
  rw [← hg5] at hG hXG hB4 ⊢
  have hne : g4 ≠ g5 := by have := heap_lt hB0; omega
  generalize (W0.alloc (.cells #[.int .i64 0, .int .i64 0, .slice none 0 0] 69)).setRow g5 #[.int .i64 e.tag, .int .i64 0, .slice none 0 0] = W1 at *
  try dsimp only [Act.put]
  have hX1 := hE0.trans hXG
  have e0 := hX1.cell hc0
  have e2 := hX1.cell hc2
  clear hst hcA hXG hE0 hB0 d0 d1 d2 hg5
  have hwj : IntKind.i64.wrap ((j : Int) + 1) = ((j + 1 : Nat) : Int) := by rw [IntKind.wrap_i64]; omega
  go_cut [32] (fun s wx => s = .bool kb ∧ Ext W1 wx)
  case first =>
    obtain ⟨j1, hj1⟩ : ∃ j1, j1 = j + 1 := ⟨_, rfl⟩
    rw [← hj1] at hwj HNX HLA
    by_cases hlast : j1 < n
    case neg =>
      have dl : decide (j1 < n) = false := by simp; omega
      have hkf := HLA.out hlast
      subst hkf
      clear hlast hj1
      go_quiet (fail)
      go_wp2_with fail
      go_meet
      exact ⟨rfl, (Ext.refl W1).drewN nq⟩
    have dl : decide (j1 < n) = true := by simp; omega
    obtain ⟨f, z, hkf, hrf⟩ := HNX.out hlast
    have hij1 : (j1 : Int) < (n : Int) := by omega
    have f0 := hX1.cell (show w.cell? ⟨bb, oo + j1 * 3, none⟩ = some (.int .i64 f.depth) by simpa using hrf 0 _ rfl)
    obtain ⟨db, hdb⟩ : ∃ b, b = decide (e.depth < f.depth) := ⟨_, rfl⟩
    have hdb' := hdb.symm
    rw [hdb'] at hkf
    subst hkf
    clear hj1 hrf hlast hdb
    go_quiet (fail)
    go_wp2_with fail
    go_meet
    exact ⟨rfl, (Ext.refl W1).drewN nq⟩
  obtain ⟨rfl, hxc⟩ := hcut
  obtain ⟨W2, rfl⟩ : ∃ W : World, W = wc := ⟨_, rfl⟩
  have hGq := hxc.heap hG
  have hBq := hxc.heap hB4
  have hX2 := hX1.trans hxc
  clear e0 e2 hG hB4 hX1 hxc
  obtain ⟨kv, hkv⟩ : ∃ kv : Int, kv = if kb then 1 else 0 := ⟨_, rfl⟩
  go_upto_if 32 with fail
  go_cut [] (fun wx => wx.heap[g5]? = some (.cells #[.int .i64 e.tag, .int .i64 kv, .slice none 0 0] 69 (0, 0)) ∧ wx.heap[g4]? = some (.cells #[.int .i64 0, .int .i64 0, .slice none 0 0] 69 (0, 0)) ∧ Ext w wx)
  case first =>
    have f1 := blk_free hGq 1
    have hlt := heap_lt hGq
    obtain ⟨r0, r1, r2⟩ := blk3 hGq
    cases kb with
    | true =>
      simp only [if_true] at hkv
      subst hkv
      have hg := gset W2 ⟨g5, 1, none⟩ (.int .i64 1)
      have hb1 := blk_set hGq 1 (.int .i64 1)
      simp only [List.setIfInBounds_toArray, List.set_cons_succ, List.set_cons_zero] at hb1
      have hb2 := blk_grown hBq hg (by simpa using hne)
      have hx3 := hX2.setCell (p := ⟨g5, 1, none⟩) hl5 (.int .i64 1)
      go_wp2_with fail
      go_meet
      exact ⟨hb1, hb2, hx3⟩
    | false =>
      simp only [Bool.false_eq_true, if_false] at hkv
      subst hkv
      go_wp2_with fail
      go_meet
      exact ⟨hGq, hBq, hX2⟩
  obtain ⟨hG5, hG4, hX⟩ := hcut
  obtain ⟨wA, rfl⟩ : ∃ W : World, W = wc := ⟨_, rfl⟩
  clear hX2 hGq hBq
  have e2 := hX.cell hc2
  have HKV := Lib.hid hkv
  clear hkv hc0 hc1 hc2 HNX HLA hra hwj
  go_wp2_with fail
  clear e2
  go_loopw [40] (fun i wr => ∃ (m : Nat) (y : Value), m ≤ n2 ∧ i = .int .i64 (m : Int) ∧ wr.heap[g5]? = some (.cells #[.int .i64 e.tag, .int .i64 kv, y] 69 (0, 0)) ∧ wr.heap[g4]? = some (.cells #[.int .i64 0, .int .i64 0, .slice none 0 0] 69 (0, 0)) ∧ OwnV iv 3 w.heap.size wr y (attsN (e.attrs.take m)) ∧ Ext w wr) (fun i _ => n2 - (intOf i).toNat)
  case atStart => exact ⟨0, _, by omega, rfl, hG5, hG4, OwnV.nil _, hX⟩
  case round =>
    clear hG5 hG4 hX
    obtain ⟨m, y, hm, rfl, hG5, hG4, hown, hX⟩ := hrel
    obtain ⟨wo, rfl⟩ : ∃ wo : World, wo = wr := ⟨_, rfl⟩
    obtain ⟨AY, cY, hyv, _⟩ := id hown.inV
    obtain ⟨ny, hny⟩ : ∃ n, n = (attsN (e.attrs.take m)).length := ⟨_, rfl⟩
    have hnyl : ny ≤ 24 := by rw [hny, attsN_len, List.length_take]; omega
    rw [← hny] at hyv
    subst hyv
    have HNY := Lib.hid hny
    clear hny
    by_cases hlt : m < n2
    · have him : (m : Int) < (n2 : Int) := by omega
      have hlt' : m < e.attrs.length := by rw [← HN2.out]; exact hlt
      obtain ⟨b2, o2, hAe, hra⟩ := (HY.out.ext hX).at_ (k := 4) (fun z hz => rfl) (by omega) hlt'
      subst hAe
      have HTK : Hid (attsN (e.attrs.take (m + 1)) = attsN (e.attrs.take m) ++ [e.attrs[m].name, e.attrs[m].form]) := Lib.hid (by rw [List.take_succ_eq_append_getElem hlt', attsN_snoc])
      generalize e.attrs[m] = a at *
      have hld := att_load hra
      obtain ⟨hst, hGa, hXG⟩ := box_new (P := Try.prog) wo 40 #[.int .i64 0, .int .i64 0, .int .i64 0, .string ByteArray.empty] #[.int .i64 a.name, .int .i64 a.form, .int .i64 a.value, .string a.text] at_size rfl (by simp [Value.oneCell'])
      go_upto_region 7 with first | refine wpList_load_run rfl 40 (.tmp 42) rfl _ _ rfl hld ?_ | refine wpList_store_run rfl 40 (.tmp 7) (.tmp 43) rfl _ _ _ rfl rfl hst ?_
      obtain ⟨g7, hg7⟩ : ∃ g, g = wo.heap.size := ⟨_, rfl⟩
      rw [← hg7] at hGa hXG ⊢
      generalize (wo.alloc (.cells #[.int .i64 0, .int .i64 0, .int .i64 0, .string ByteArray.empty] 40)).setRow g7 #[.int .i64 a.name, .int .i64 a.form, .int .i64 a.value, .string a.text] = wg at *
      try dsimp only [Act.put]
      obtain ⟨a0, a1, a2, a3⟩ := blkR hGa
      have hXX := hX.trans hXG
      have hGg := hXG.heap hG5
      have hG4g := hXG.heap hG4
      have hA := (Ext.refl wg).alloc (.cells #[.int .i64 a.name, .int .i64 a.form] 3)
      have hin : InV iv (wg.alloc (.cells #[.int .i64 a.name, .int .i64 a.form] 3)) (.slice (some ⟨wg.heap.size, 0, none⟩) 2 2) [a.name, a.form] := (OwnV_two wg a.name a.form).inV
      have howna := (hown.ext hXG).ext hA
      have hsz := (hXX.trans hA).size
      have hXA := hXX.trans hA
      obtain ⟨r0, r1, r2⟩ := blk3 hGg
      have hGA := hA.heap hGg
      have hG4A := hA.heap hG4g
      clear hst hld hra hXG hX hg7 hG5 hG4 hown hXX
      go_wp2_with (at_builtin; go_must (refine wpList_appendV elem_in (fun _ => rfl) rfl (.tmp 45) (.tmp 50) rfl w.heap.size _ (attsN (e.attrs.take m)) rfl howna _ [a.name, a.form] rfl hin (by rw [← HNY.out]; simp only [List.length_cons, List.length_nil]; omega) (by omega) hsz (Hold.out ?_)))
      refine Hold.mk fun v9 w9 ho9 hg9 => ?_
      rw [← HTK.out] at ho9
      have hX9 : Ext w w9 := hg9.ext hXA howna.ge
      have hG59 := blk_grown hGA hg9.grown (fun e => howna.ne_blk hGA (by decide) e.symm)
      have hG49 := blk_grown hG4A hg9.grown (fun e => howna.ne_blk hG4A (by decide) e.symm)
      clear hg9 howna hin hsz hA hXA hGA hG4A r0 r1 r2 a0 a1 a2 a3 hGg hG4g hGa
      obtain ⟨A9, c9, hv9, _⟩ := id ho9.inV
      obtain ⟨n9, hn9⟩ : ∃ n, n = (attsN (e.attrs.take (m + 1))).length := ⟨_, rfl⟩
      rw [← hn9] at hv9
      subst hv9
      clear hn9
      have hG5z := blk_set hG59 2 (.slice A9 n9 c9)
      simp only [List.setIfInBounds_toArray, List.set_cons_succ, List.set_cons_zero] at hG5z
      have hownz := ho9.kept (gset w9 ⟨g5, 2, none⟩ (.slice A9 n9 c9)) (.inr (ho9.ne_blk hG59 (by decide)))
      have hXz := hX9.setCell (p := ⟨g5, 2, none⟩) hl5 (.slice A9 n9 c9)
      have hG4z := blk_grown hG49 (gset w9 ⟨g5, 2, none⟩ (.slice A9 n9 c9)) (by simpa using hne)
      obtain ⟨r0, r1, r2⟩ := blk3 hG59
      have f2 := blk_free hG59 2
      have hlt9 := heap_lt hG59
      clear ho9 hX9
      go_wp2_with fail
      go_roundw
      case rel => exact ⟨m + 1, _, by omega, by first | (with_reducible rfl) | go_num, hG5z, hG4z, hownz, hXz⟩
      case measure => simp [intOf]; omega
    · have him : ¬ (m : Int) < (n2 : Int) := by omega
      have hte : e.attrs.take m = e.attrs := List.take_of_length_le (by have := HN2.out; omega)
      rw [hte] at hown
      have hldt := run_loadAt_blk (P := Try.prog) wo g5 69 69 _ (0, 0) _ hG5 Try.underlying69 rfl sh_size
      have hstr := run_storeAt_blk (P := Try.prog) wo g4 69 69 _ #[.int .i64 e.tag, .int .i64 kv, .slice AY ny cY] hG4 sh_size rfl (by simp [Value.oneCell'])
      have hXr := hX.grown (gsetRow wo g4 #[.int .i64 e.tag, .int .i64 kv, .slice AY ny cY]) (fun k e => by cases e; exact hl4)
      have hGr := setRow_heap wo g4 _ #[.int .i64 e.tag, .int .i64 kv, .slice AY ny cY] _ _ hG4
      have hownr := hown.kept (gsetRow wo g4 #[.int .i64 e.tag, .int .i64 kv, .slice AY ny cY]) (.inr (hown.ne_blk hG4 (by decide)))
      have hld2 := run_loadAt_blk (P := Try.prog) (wo.setRow g4 #[.int .i64 e.tag, .int .i64 kv, .slice AY ny cY]) g4 69 69 _ (0, 0) _ hGr Try.underlying69 rfl sh_size
      clear hte hG5 hX hown
      go_wp2_with first | refine wpList_load_run rfl 69 (.tmp 5) rfl _ _ rfl hldt ?_ | refine wpList_store_run rfl 69 (.tmp 4) (.tmp 54) rfl _ _ _ rfl rfl hstr ?_
      have q0 := blk_at hGr 0 _ rfl
      have q1 := blk_at hGr 1 _ rfl
      have q2 := blk_at hGr 2 _ rfl
      refine bodyPost_ret (v := .agg #[.int .i64 e.tag, .int .i64 kv, .slice AY ny cY]) (by simp [results, Try.results26, go_sem, q0, q1, q2]) rfl ?_
      exact ⟨_, by rw [HKV.out]; rfl, hownr, hXr⟩
def SamePst (a b : RSh) (w : World) (en : Ending) (w' : World) : Prop := en = .returned (.bool (decide (a.tag = b.tag ∧ a.kids = b.kids ∧ a.names = b.names))) ∧ Ext w w'
set_option maxHeartbeats 40000000 in
set_option maxRecDepth 100000 in
theorem refSame21_any (a b : RSh) (x y : Value) (w : World) (hx : InI w x a.names) (hy : InI w y b.names) (hl : a.names.length ≤ 1000000) :
    Calls Try.prog 27 #[.agg #[.int .i64 a.tag, .int .i64 a.kids, x], .agg #[.int .i64 b.tag, .int .i64 b.kids, y]] w (SamePst a b w) := by
  obtain ⟨A, c, rfl, _, _⟩ := id hx
  obtain ⟨B, d, rfl, _, _⟩ := id hy
  obtain ⟨n, hn⟩ : ∃ n, n = a.names.length := ⟨_, rfl⟩
  obtain ⟨m, hm⟩ : ∃ m, m = b.names.length := ⟨_, rfl⟩
  rw [← hn] at hx hl ⊢
  rw [← hm] at hy ⊢
  have HX := Lib.hid hx
  have HY := Lib.hid hy
  have HN := Lib.hid hn
  have HM := Lib.hid hm
  clear hx hy hn hm
  go_enter Try.func27, Try.ntmps27
  go_upto_region 1 with fail
  obtain ⟨W, hW, hE, hG2, hG3⟩ : ∃ W, W = (w.alloc (.cells #[.int .i64 a.tag, .int .i64 a.kids, .slice A n c] 69)).alloc (.cells #[.int .i64 b.tag, .int .i64 b.kids, .slice B m d] 69) ∧ Ext w W ∧ W.heap[w.heap.size]? = some (.cells #[.int .i64 a.tag, .int .i64 a.kids, .slice A n c] 69 (0, 0)) ∧ W.heap[w.heap.size + 1]? = some (.cells #[.int .i64 b.tag, .int .i64 b.kids, .slice B m d] 69 (0, 0)) := ⟨_, rfl, ((Ext.refl w).alloc _).alloc _, ((Ext.refl _).alloc _).heap (heap_alloc_new w _), by have := heap_alloc_new (w.alloc (.cells #[.int .i64 a.tag, .int .i64 a.kids, .slice A n c] 69)) (.cells #[.int .i64 b.tag, .int .i64 b.kids, .slice B m d] 69); simpa using this⟩
  rw [← hW]
  clear hW
  obtain ⟨g3, hg3⟩ : ∃ g, g = w.heap.size + 1 := ⟨_, rfl⟩
  obtain ⟨g2, hg2⟩ : ∃ g, g = w.heap.size := ⟨_, rfl⟩
  rw [← hg3] at hG3 ⊢
  rw [← hg2] at hG2 ⊢
  clear hg2 hg3
  obtain ⟨r0, r1, r2⟩ := blk3 hG2
  obtain ⟨s0, s1, s2⟩ := blk3 hG3
  by_cases e1 : a.tag = b.tag
  case neg =>
    have t1 : (a.tag != b.tag) = true := by simp [e1]
    have t1' : decide (a.tag = b.tag) = false := by simp [e1]
    have HD : Hid (decide (a.tag = b.tag ∧ a.kids = b.kids ∧ a.names = b.names) = false) := Lib.hid (decide_eq_false (fun h => e1 h.1))
    clear e1
    go_wp2_with fail
    go_ret
    exact ⟨by rw [HD.out]; rfl, hE⟩
  have t1 : (a.tag != b.tag) = false := by simp [e1]
  have t1' : decide (a.tag = b.tag) = true := by simp [e1]
  by_cases e2 : a.kids = b.kids
  case neg =>
    have t2 : (a.kids != b.kids) = true := by simp [e2]
    have t2' : decide (a.kids = b.kids) = false := by simp [e2]
    have HD : Hid (decide (a.tag = b.tag ∧ a.kids = b.kids ∧ a.names = b.names) = false) := Lib.hid (decide_eq_false (fun h => e2 h.2.1))
    clear e1 e2
    go_wp2_with fail
    go_ret
    exact ⟨by rw [HD.out]; rfl, hE⟩
  have t2 : (a.kids != b.kids) = false := by simp [e2]
  have t2' : decide (a.kids = b.kids) = true := by simp [e2]
  by_cases e3 : n = m
  case neg =>
    have t3 : ((n : Int) != (m : Int)) = true := by simp; omega
    have t3' : decide (n = m) = false := by simp [e3]
    have HD : Hid (decide (a.tag = b.tag ∧ a.kids = b.kids ∧ a.names = b.names) = false) := Lib.hid (decide_eq_false (fun h => e3 (by rw [HN.out, HM.out, h.2.2])))
    clear e1 e2 e3
    go_wp2_with fail
    go_ret
    exact ⟨by rw [HD.out]; rfl, hE⟩
  subst e3
  have t3 : ((n : Int) != (n : Int)) = false := by simp
  have t3' : decide (n = n) = true := by simp
  have HEQ : Hid (a.names = b.names → decide (a.tag = b.tag ∧ a.kids = b.kids ∧ a.names = b.names) = true) := Lib.hid (fun h => by simp [e1, e2, h])
  clear e1 e2
  go_wp2_with fail
  clear r0 r1 r2 s0 s1 s2
  obtain ⟨W1, rfl⟩ : ∃ X : World, X = W := ⟨_, rfl⟩
  go_loopw [30] (fun i wr => ∃ (j : Nat), j ≤ n ∧ i = .int .i64 (j : Int) ∧ Hid (a.names.take j = b.names.take j) ∧ Ext W1 wr) (fun i _ => n - (intOf i).toNat)
  case atStart => exact ⟨0, by omega, rfl, Lib.hid rfl, Ext.refl _⟩
  case round =>
    obtain ⟨j, hj, rfl, HT, hX⟩ := hrel
    obtain ⟨wo, rfl⟩ : ∃ wo : World, wo = wr := ⟨_, rfl⟩
    by_cases hlt : j < n
    · have hij : (j : Int) < (n : Int) := by omega
      have hj1 : j < a.names.length := by rw [← HN.out]; exact hlt
      have hj2 : j < b.names.length := by rw [← HM.out]; exact hlt
      obtain ⟨A', c', e', _, hra⟩ := HX.out
      have eA : A = A' := by injection e'
      subst eA
      clear e'
      obtain ⟨B', d', e', _, hrb⟩ := HY.out
      have eB : B = B' := by injection e'
      subst eB
      clear e'
      obtain ⟨ba, oa, rfl, hca⟩ := hra.at2 (k := j) (by simpa using hj1)
      obtain ⟨bb, ob, rfl, hcb⟩ := hrb.at2 (k := j) (by simpa using hj2)
      have HIF : Hid (a.names[j] = b.names[j] → a.names.take (j + 1) = b.names.take (j + 1)) := Lib.hid (fun h => take_step HT.out hj1 hj2 h)
      have HIN : Hid (a.names[j] ≠ b.names[j] → a.names ≠ b.names) := Lib.hid (fun h h2 => by
        apply h
        simp only [h2])
      rw [List.getElem_map] at hca hcb
      have hca' := (hE.trans hX).cell hca
      have hcb' := (hE.trans hX).cell hcb
      have hGa' := hX.heap hG2
      have hGb' := hX.heap hG3
      clear hca hcb hra hrb
      generalize a.names[j] = p at *
      generalize b.names[j] = q at *
      simp only [iv] at hca' hcb'
      obtain ⟨r0, r1, r2⟩ := blk3 hGa'
      obtain ⟨s0, s1, s2⟩ := blk3 hGb'
      go_upto_region 6 with fail
      by_cases hpq : p = q
      · have HNX := Lib.hid (HIF.out hpq)
        have u1 : (p != q) = false := by simp [hpq]
        have u2 : decide (p = q) = true := by simp [hpq]
        clear hpq
        go_quiet (fail)
        go_wp2_with fail
        go_roundw
        case rel => exact ⟨j + 1, by omega, by first | (with_reducible rfl) | go_num, HNX, hX.trans ((Ext.refl wo).drewN nq)⟩
        case measure => simp [intOf]; omega
      · have HD : Hid (decide (a.tag = b.tag ∧ a.kids = b.kids ∧ a.names = b.names) = false) := Lib.hid (decide_eq_false (fun h => HIN.out hpq h.2.2))
        have u1 : (p != q) = true := by simp [hpq]
        have u2 : decide (p = q) = false := by simp [hpq]
        clear hpq
        go_quiet (fail)
        go_wp2_with fail
        go_ret
        exact ⟨by rw [HD.out]; rfl, (hE.trans hX).trans ((Ext.refl wo).drewN nq)⟩
    · have hij : ¬ (j : Int) < (n : Int) := by omega
      have HD : Hid (decide (a.tag = b.tag ∧ a.kids = b.kids ∧ a.names = b.names) = true) := Lib.hid (HEQ.out (by
        have := HT.out
        rwa [List.take_of_length_le (by have := HN.out; omega), List.take_of_length_le (by have := HM.out; omega)] at this))
      go_wp2_with fail
      go_ret
      exact ⟨by rw [HD.out]; rfl, hE.trans hX⟩
def ValPst (a : Att) (w : World) (en : Ending) (w' : World) : Prop := ∃ y, en = .returned y ∧ OwnV bv 5 w.heap.size w' y (valB a) ∧ Ext w w'
set_option maxHeartbeats 40000000 in
set_option maxRecDepth 100000 in
theorem refValue_any (a : Att) (w : World) (hok : okAtt a) (hI : a.I) :
    Calls Try.prog 29 #[.agg #[.int .i64 a.name, .int .i64 a.form, .int .i64 a.value, .string a.text]] w (ValPst a w) := by
  have hv := hI.value
  unfold I64 at hv
  have ht := okAtt_text hok
  have hf : a.form = 1 ∨ a.form = 2 ∨ a.form = 3 ∨ a.form = 4 := by unfold okAtt at hok; omega
  clear hok hI
  go_enter Try.func29, Try.ntmps29
  go_upto_region 1 with fail
  obtain ⟨W, hW, hE, hG⟩ : ∃ W, W = w.alloc (.cells #[.int .i64 a.name, .int .i64 a.form, .int .i64 a.value, .string a.text] 40) ∧ Ext w W ∧ W.heap[w.heap.size]? = some (.cells #[.int .i64 a.name, .int .i64 a.form, .int .i64 a.value, .string a.text] 40 (0, 0)) := ⟨_, rfl, (Ext.refl w).alloc _, heap_alloc_new w _⟩
  rw [← hW]
  obtain ⟨g1, hg1⟩ : ∃ g, g = w.heap.size := ⟨_, rfl⟩
  rw [← hg1] at hG ⊢
  clear hW hg1
  obtain ⟨r0, r1, r2, r3⟩ := blkR hG
  have hnil : InB W (.slice none 0 0) [] := InV.nil W
  rcases hf with hf | hf | hf | hf
  · have t1 : (a.form == 1) = true := by simp [hf]
    have t1' : decide (a.form = 1) = true := by simp [hf]
    have HV : Hid (valB a = [] ++ uintB a.value) := Lib.hid (by unfold valB; rw [if_pos hf]; rfl)
    clear hf
    go_wp2_with fail
    refine (refAppendUint_any _ [] a.value W hnil (by simp) hv.2).mono ?_
    rintro en w2 ⟨y, rfl, hy, hx⟩
    rw [← HV.out] at hy
    go_wp2_with fail
    go_ret
    exact ⟨_, rfl, hy.toV.low hE.size, hE.trans hx⟩
  · have t1 : (a.form == 1) = false := by simp [hf]
    have t1' : decide (a.form = 1) = false := by simp [hf]
    have t2 : (a.form == 2) = true := by simp [hf]
    have t2' : decide (a.form = 2) = true := by simp [hf]
    have HV : Hid (valB a = [] ++ leb (zig a.value)) := Lib.hid (by unfold valB; rw [if_neg (by omega), if_pos hf]; rfl)
    clear hf
    go_wp2_with fail
    refine (refAppendInt_any _ [] a.value W hnil (by simp) hv.1 hv.2).mono ?_
    rintro en w2 ⟨y, rfl, hy, hx⟩
    rw [← HV.out] at hy
    go_wp2_with fail
    go_ret
    exact ⟨_, rfl, hy.toV.low hE.size, hE.trans hx⟩
  · have t1 : (a.form == 1) = false := by simp [hf]
    have t1' : decide (a.form = 1) = false := by simp [hf]
    have t2 : (a.form == 2) = false := by simp [hf]
    have t2' : decide (a.form = 2) = false := by simp [hf]
    have t3 : (a.form == 3) = true := by simp [hf]
    have t3' : decide (a.form = 3) = true := by simp [hf]
    have HV : Hid (valB a = [] ++ (leb a.text.size ++ a.text.data.toList)) := Lib.hid (by unfold valB; rw [if_neg (by omega), if_neg (by omega), if_pos hf]; rfl)
    clear hf
    go_wp2_with fail
    refine (refAppendText_any _ [] a.text W hnil (by simp) (by omega)).mono ?_
    rintro en w2 ⟨y, rfl, hy, hx⟩
    rw [← HV.out] at hy
    go_wp2_with fail
    go_ret
    exact ⟨_, rfl, hy.toV.low hE.size, hE.trans hx⟩
  · have t1 : (a.form == 1) = false := by simp [hf]
    have t1' : decide (a.form = 1) = false := by simp [hf]
    have t2 : (a.form == 2) = false := by simp [hf]
    have t2' : decide (a.form = 2) = false := by simp [hf]
    have t3 : (a.form == 3) = false := by simp [hf]
    have t3' : decide (a.form = 3) = false := by simp [hf]
    have HV : Hid (valB a = []) := Lib.hid (by unfold valB; rw [if_neg (by omega), if_neg (by omega), if_neg (by omega)])
    clear hf
    go_wp2_with fail
    go_ret
    exact ⟨_, rfl, by rw [HV.out]; exact OwnV.nil _, hE⟩
end Go.Proofs.Ytopanbcodfkedaa
