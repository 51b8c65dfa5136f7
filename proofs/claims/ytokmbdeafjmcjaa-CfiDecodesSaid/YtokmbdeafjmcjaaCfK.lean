/- What is encoded is decoded again; the sanity check of the statements about frame tables. -/
import Derived.Test.YtokmbdeafjmcjaaCfH
import Derived.Test.YtokmbdeafjmcjaaCfS
import Derived.Test.YtokmbdeafjmcjaaCfQ
import Derived.Test.YtokmbdeafjmcjaaWireR
namespace Go.Proofs.Ytokmbdeafjmcjaa
open Go.RowKit
set_option linter.unusedVariables false
set_option linter.unusedSimpArgs false

theorem uintR_here {b pre rest : List UInt8} {v : Int} (h0 : 0 ≤ v) (h1 : v ≤ 4000000) (hb : b = pre ++ (uintB v ++ rest)) : uintR b (pre.length : Int) = (v, ((pre ++ uintB v).length : Int), 0) := by
  subst hb
  unfold uintB
  rw [if_neg (by omega), uintR_leb (by omega), List.length_append]
  have : ((v.toNat : Nat) : Int) = v := by omega
  rw [this]
  simp
theorem numR_at {b pre rest : List UInt8} {v : Int} (h0 : 0 ≤ v) (h1 : v ≤ 4000000) (hb : b = pre ++ (uintB v ++ rest)) : numR b (pre.length : Int) = .ok (v, ((pre ++ uintB v).length : Int)) := by
  unfold numR
  rw [uintR_here h0 h1 hb]
  simp only [ne_eq, not_true, if_false]
  rw [if_neg (by omega)]
theorem cntR_at {m : Int} {b pre rest : List UInt8} {v : Int} (h0 : 0 ≤ v) (h1 : v ≤ 4000000) (hm : v ≤ m) (hb : b = pre ++ (uintB v ++ rest)) : cntR m b (pre.length : Int) = .ok (v, ((pre ++ uintB v).length : Int)) := by
  unfold cntR
  rw [uintR_here h0 h1 hb]
  simp only [ne_eq, not_true, if_false]
  rw [if_neg (by omega)]
theorem numsR_at {b : List UInt8} : ∀ (vs : List Int) {pre rest : List UInt8}, (∀ v ∈ vs, 0 ≤ v ∧ v ≤ 4000000) → b = pre ++ (numB vs ++ rest) → numsR b vs.length (pre.length : Int) = .ok (vs, ((pre ++ numB vs).length : Int))
  | [], pre, rest, _, _ => by simp [numsR, numB]
  | v :: l, pre, rest, hv, hb => by
    have h1 := hv v (by simp)
    have e : numB (v :: l) = uintB v ++ numB l := by simp [numB]
    rw [e, List.append_assoc] at hb
    have h2 := numR_at h1.1 h1.2 hb
    have h3 := numsR_at (b := b) l (pre := pre ++ uintB v) (rest := rest) (fun x hx => hv x (by simp [hx])) (by rw [hb, List.append_assoc])
    simp only [List.length_cons]
    unfold numsR
    rw [h2]
    simp only
    rw [h3, e, List.append_assoc]
    rfl
theorem stepsR_at {b : List UInt8} {hi : Int} (hh : hi ≤ 1048576) : ∀ (l : List Stp) {lo nx : Int} {pre rest : List UInt8}, 0 ≤ lo → lo ≤ nx → okStps nx hi l → b = pre ++ (numB (stepsN lo l) ++ rest) → stepsR b l.length lo (pre.length : Int) = .ok (l, ((pre ++ numB (stepsN lo l)).length : Int))
  | [], lo, nx, pre, rest, _, _, _, _ => by simp [stepsR, stepsN, numB]
  | s :: l, lo, nx, pre, rest, h0, h1, hok, hb => by
    have h2 := hok.1
    unfold okStp at h2
    have e : numB (stepsN lo (s :: l)) = numB [s.addr - lo, s.off] ++ numB (stepsN s.addr l) := by rw [← numB_app]; rfl
    rw [e, List.append_assoc] at hb
    have h3 := numsR_at [s.addr - lo, s.off] (by simp only [List.mem_cons, List.not_mem_nil, or_false, forall_eq_or_imp, forall_eq]; omega) hb
    have h4 := stepsR_at (b := b) hh l (lo := s.addr) (nx := s.addr + 1) (pre := pre ++ numB [s.addr - lo, s.off]) (rest := rest) (by omega) (by omega) hok.2 (by rw [hb, List.append_assoc])
    simp only [List.length_cons]
    unfold stepsR
    have h3' : numsR b 2 (pre.length : Int) = .ok ([s.addr - lo, s.off], ((pre ++ numB [s.addr - lo, s.off]).length : Int)) := h3
    rw [h3']
    simp only
    rw [show s.addr - lo + lo = s.addr by omega, h4, e, List.append_assoc]
    rfl
theorem objsR_at {b : List UInt8} : ∀ (l : List Obj) {pre rest : List UInt8}, (∀ o ∈ l, okObj o) → b = pre ++ (numB (l.flatMap objN) ++ rest) → objsR b l.length (pre.length : Int) = .ok (l, ((pre ++ numB (l.flatMap objN)).length : Int))
  | [], pre, rest, _, _ => by simp [objsR, numB]
  | o :: l, pre, rest, hok, hb => by
    have h2 := hok o (by simp)
    unfold okObj at h2
    have e : numB ((o :: l).flatMap objN) = numB [o.ctx, o.var, o.slot, o.words] ++ numB (l.flatMap objN) := by rw [← numB_app]; rfl
    rw [e, List.append_assoc] at hb
    have h3 := numsR_at [o.ctx, o.var, o.slot, o.words] (by simp only [List.mem_cons, List.not_mem_nil, or_false, forall_eq_or_imp, forall_eq]; omega) hb
    have h4 := objsR_at (b := b) l (pre := pre ++ numB [o.ctx, o.var, o.slot, o.words]) (rest := rest) (fun x hx => hok x (by simp [hx])) (by rw [hb, List.append_assoc])
    simp only [List.length_cons]
    unfold objsR
    have h3' : numsR b 4 (pre.length : Int) = .ok ([o.ctx, o.var, o.slot, o.words], ((pre ++ numB [o.ctx, o.var, o.slot, o.words]).length : Int)) := h3
    rw [h3']
    simp only
    rw [h4, e, List.append_assoc]
    rfl
theorem numB_one (v : Int) : numB [v] = uintB v := by simp [numB]
theorem tabR_at {b : List UInt8} {t : FTab} {pre rest : List UInt8} (h1 : 0 ≤ t.lo ∧ t.lo ≤ t.hi ∧ t.hi ≤ 1048576) (h2 : okStps t.lo t.hi t.steps) (h3 : ∀ o ∈ t.objs, okObj o) (h4 : t.steps.length + t.objs.length ≤ 8000)
    (hb : b = pre ++ (numB (tabN t) ++ rest)) : tabR b (pre.length : Int) = .ok (t, ((pre ++ numB (tabN t)).length : Int)) := by
  have e : numB (tabN t) = numB [t.lo, t.hi] ++ (uintB (t.steps.length : Int) ++ (numB (stepsN t.lo t.steps) ++ (uintB (t.objs.length : Int) ++ numB (t.objs.flatMap objN)))) := by
    unfold tabN
    rw [show [t.lo, t.hi, (t.steps.length : Int)] = [t.lo, t.hi] ++ [(t.steps.length : Int)] from rfl]
    simp only [numB_app, numB_one, List.append_assoc]
  rw [e] at hb ⊢
  simp only [List.append_assoc] at hb
  have a1 := numsR_at [t.lo, t.hi] (by simp only [List.mem_cons, List.not_mem_nil, or_false, forall_eq_or_imp, forall_eq]; omega) hb
  have a2 := cntR_at (m := 8000) (b := b) (v := (t.steps.length : Int)) (pre := pre ++ numB [t.lo, t.hi]) (rest := numB (stepsN t.lo t.steps) ++ (uintB (t.objs.length : Int) ++ (numB (t.objs.flatMap objN) ++ rest))) (by omega) (by omega) (by omega) (by rw [hb]; simp only [List.append_assoc])
  have a3 := stepsR_at (b := b) h1.2.2 t.steps (lo := t.lo) (nx := t.lo) (pre := (pre ++ numB [t.lo, t.hi]) ++ uintB (t.steps.length : Int)) (rest := uintB (t.objs.length : Int) ++ (numB (t.objs.flatMap objN) ++ rest)) h1.1 (Int.le_refl _) h2 (by rw [hb]; simp only [List.append_assoc])
  have a4 := cntR_at (m := 8000) (b := b) (v := (t.objs.length : Int)) (pre := ((pre ++ numB [t.lo, t.hi]) ++ uintB (t.steps.length : Int)) ++ numB (stepsN t.lo t.steps)) (rest := numB (t.objs.flatMap objN) ++ rest) (by omega) (by omega) (by omega) (by rw [hb]; simp only [List.append_assoc])
  have a5 := objsR_at (b := b) t.objs (pre := (((pre ++ numB [t.lo, t.hi]) ++ uintB (t.steps.length : Int)) ++ numB (stepsN t.lo t.steps)) ++ uintB (t.objs.length : Int)) (rest := rest) h3 (by rw [hb]; simp only [List.append_assoc])
  unfold tabR
  have a1' : numsR b 2 (pre.length : Int) = .ok ([t.lo, t.hi], ((pre ++ numB [t.lo, t.hi]).length : Int)) := a1
  rw [a1']
  simp only [a2, Int.toNat_natCast, a3, a4, a5]
  simp only [List.append_assoc]
theorem tabsR_at {b : List UInt8} : ∀ (l : List FTab) {pre rest : List UInt8}, (∀ t ∈ l, (0 ≤ t.lo ∧ t.lo ≤ t.hi ∧ t.hi ≤ 1048576) ∧ okStps t.lo t.hi t.steps ∧ (∀ o ∈ t.objs, okObj o) ∧ t.steps.length + t.objs.length ≤ 8000) → b = pre ++ (l.flatMap (fun t => numB (tabN t)) ++ rest) →
    tabsR b l.length (pre.length : Int) = .ok (l, ((pre ++ l.flatMap (fun t => numB (tabN t))).length : Int))
  | [], pre, rest, _, _ => by simp [tabsR]
  | t :: l, pre, rest, hok, hb => by
    obtain ⟨h1, h2, h3, h4⟩ := hok t (by simp)
    rw [List.flatMap_cons, List.append_assoc] at hb
    have h5 := tabR_at h1 h2 h3 h4 hb
    have h6 := tabsR_at (b := b) l (pre := pre ++ numB (tabN t)) (rest := rest) (fun x hx => hok x (by simp [hx])) (by rw [hb, List.append_assoc])
    simp only [List.length_cons]
    unfold tabsR
    rw [h5]
    simp only
    rw [h6, List.flatMap_cons, List.append_assoc]
    rfl
/-- what is encoded is decoded again -/
theorem decF_enc {l : List FTab} (h : RightF l) (hl : (encFs l).length ≤ 60000) : decF (encFs l) = .ok l := by
  have h8 := h.1
  have a1 := cntR_at (m := 8) (b := encFs l) (v := (l.length : Int)) (pre := []) (rest := l.flatMap (fun t => numB (tabN t))) (by omega) (by omega) (by omega) (by unfold encFs; rw [numB_one]; rfl)
  have a2 := tabsR_at (b := encFs l) l (pre := uintB (l.length : Int)) (rest := []) (fun t ht => by
    obtain ⟨h1, h2, h3, h4⟩ := h.mem ht
    exact ⟨h1, h2, h3.1, h4⟩) (by unfold encFs; rw [numB_one, List.append_nil])
  unfold decF
  rw [if_neg (by omega)]
  have a1' : cntR 8 (encFs l) 0 = .ok ((l.length : Int), ((uintB (l.length : Int)).length : Int)) := by simpa using a1
  rw [a1']
  simp only [Int.toNat_natCast, a2]
  rw [if_neg]
  rintro (h1 | h1)
  · unfold encFs at h1
    rw [numB_one] at h1
    omega
  · exact h1 h
/-! the sanity check -/
def tab3 : FTab := ⟨0, 9, [⟨0, 0⟩, ⟨1, 6⟩, ⟨8, 0⟩], []⟩
theorem tab3_right : RightF [tab3] := by
  refine ⟨by simp, ⟨?_, ?_, ?_, trivial⟩, by simp [itemsN, tab3]⟩
  · simp [okF, tab3]
  · simp [okStps, okStp, tab3]
  · exact okObjs_nil
theorem tab3_enc : encFs [tab3] = [1, 0, 9, 3, 0, 0, 1, 6, 7, 0, 0] := by
  have u : ∀ n : Nat, n < 128 → uintB (n : Int) = [UInt8.ofNat n] := fun n h => by
    unfold uintB
    rw [if_neg (by omega)]
    simpa using leb_small h
  have e0 : uintB 0 = [0] := u 0 (by omega)
  have e1 : uintB 1 = [1] := u 1 (by omega)
  have e3 : uintB 3 = [3] := u 3 (by omega)
  have e6 : uintB 6 = [6] := u 6 (by omega)
  have e7 : uintB 7 = [7] := u 7 (by omega)
  have e9 : uintB 9 = [9] := u 9 (by omega)
  simp [encFs, numB, tabN, tab3, stepsN, e0, e1, e3, e6, e7, e9]
theorem tab3_off : offF tab3 7 = (6, true) := by decide
theorem run_rowThree {P : Program} {t e : TypeId} {k bytes : Nat} (he : ElemN P t e k bytes) (w : World) (cs ds es : Array Value) (hs : cs.size = k) (hd : ds.size = k) (hf : es.size = k) (hk : k ≤ 1000) :
    (Instr.buildSlice t 3 #[(0, .agg cs), (1, .agg ds), (2, .agg es)]).run P w = .ok (.slice (some ⟨w.heap.size, 0, none⟩) 3 3) (w.alloc (.cells (cs ++ (ds ++ es)) e)) := by
  obtain ⟨i, z, hi, hz0, hz1, hz2, hzc⟩ := he.info
  have hp := he.pos
  have hfw := Great.fill_whole (s := k) hp [.agg cs, .agg ds, .agg es] ((Array.range (3 * k)).map (z.cells[· % z.cells.size]!)) (fun v hv => by simp only [List.mem_cons, List.not_mem_nil, or_false] at hv; rcases hv with rfl | rfl | rfl <;> assumption) (by simp)
  refine run_buildSlice w t e 3 _ (cs ++ (ds ++ es)) i z he.slice hi hz0 (by rw [hz1]; simp; omega) (by rw [hz1]; omega) ?_
  rw [hz1]
  have e : (cs ++ (ds ++ es)) = (([.agg cs, .agg ds, .agg es] : List Value).flatMap fun v => v.cells.toList).toArray := by
    apply Array.ext'
    simp [Value.cells]
  rw [e]
  exact hfw
theorem wpList_rowThree {P : Program} {t e : TypeId} {k bytes : Nat} (he : ElemN P t e k bytes) {ops : Array Oper} {rest : List Oper} {o : Oper} {a : Act} {w : World} {Q : Exit → Act → World → Prop} (hg : o.guard = none) (x y z : Operand) (ho : o.op = .buildSlice t 3 #[(0, x), (1, y), (2, z)])
    (cs ds es : Array Value) (hx : a.eval x = .agg cs) (hy : a.eval y = .agg ds) (hz : a.eval z = .agg es) (hs : cs.size = k) (hd : ds.size = k) (hf : es.size = k) (hk : k ≤ 1000)
    (h : wpList P ops Q rest (a.put o.dst (.slice (some ⟨w.heap.size, 0, none⟩) 3 3)) (w.alloc (.cells (cs ++ (ds ++ es)) e))) : wpList P ops Q (o :: rest) a w := by
  refine wpList_run hg _ ?_ h
  unfold execOp
  simp only [ho, Sem.run_bind, List.map_toArray, List.map_cons, List.map_nil, hx, hy, hz, run_rowThree he w cs ds es hs hd hf hk, Result.andThen_ok, Sem.run_pure]
set_option maxHeartbeats 40000000 in
set_option maxRecDepth 100000 in
theorem known20_any (w : World) : Calls Try.prog 13 #[] w fun en w' => en = .returned (.bool true) ∧ Ext w w' := by
  go_enter Try.func13, Try.ntmps13
  have hB0 := heap_alloc_new w (.cells #[.int .i64 0, .int .i64 0, .int .i64 1, .int .i64 6, .int .i64 8, .int .i64 0] 78)
  have hE0 := (Ext.refl w).alloc (.cells #[.int .i64 0, .int .i64 0, .int .i64 1, .int .i64 6, .int .i64 8, .int .i64 0] 78)
  go_upto_region 2 with first | refine wpList_rowThree elem_sp rfl (.tmp 7) (.tmp 8) (.tmp 9) rfl #[.int .i64 0, .int .i64 0] #[.int .i64 1, .int .i64 6] #[.int .i64 8, .int .i64 0] rfl rfl rfl rfl rfl rfl (by omega) ?_ | refine wpList_rowOne elem_ft rfl (.tmp 11) rfl #[.int .i64 0, .int .i64 9, .slice (some ⟨w.heap.size, 0, none⟩) 3 3, .slice none 0 0] rfl rfl (by omega) ?_
  have hB1 := heap_alloc_new (w.alloc (.cells #[.int .i64 0, .int .i64 0, .int .i64 1, .int .i64 6, .int .i64 8, .int .i64 0] 78)) (.cells #[.int .i64 0, .int .i64 9, .slice (some ⟨w.heap.size, 0, none⟩) 3 3, .slice none 0 0] 27)
  have hE1 := hE0.alloc (.cells #[.int .i64 0, .int .i64 9, .slice (some ⟨w.heap.size, 0, none⟩) 3 3, .slice none 0 0] 27)
  have hB01 := ((Ext.refl _).alloc (.cells #[.int .i64 0, .int .i64 9, .slice (some ⟨w.heap.size, 0, none⟩) 3 3, .slice none 0 0] 27)).heap hB0
  have hsz : (w.alloc (.cells #[.int .i64 0, .int .i64 0, .int .i64 1, .int .i64 6, .int .i64 8, .int .i64 0] 78)).heap.size = w.heap.size + 1 := by simp
  rw [hsz] at hB1
  obtain ⟨T, hT⟩ : ∃ T, T = tab3 := ⟨_, rfl⟩
  have hFT : FTabs ((w.alloc (.cells #[.int .i64 0, .int .i64 0, .int .i64 1, .int .i64 6, .int .i64 8, .int .i64 0] 78)).alloc (.cells #[.int .i64 0, .int .i64 9, .slice (some ⟨w.heap.size, 0, none⟩) 3 3, .slice none 0 0] 27)) (.slice (some ⟨w.heap.size + 1, 0, none⟩) 1 1) [T] := by
    rw [hT]
    refine ⟨[(tab3, .slice (some ⟨w.heap.size, 0, none⟩) 3 3, .slice none 0 0)], rfl, ⟨_, 1, rfl, Nat.le_refl _, Rd_blk hB1⟩, fun z hz => ?_⟩
    simp only [List.mem_singleton] at hz
    subst hz
    exact ⟨⟨_, 3, rfl, Nat.le_refl _, Rd_blk hB01⟩, InR.nil _⟩
  generalize (w.alloc (.cells #[.int .i64 0, .int .i64 0, .int .i64 1, .int .i64 6, .int .i64 8, .int .i64 0] 78)).alloc (.cells #[.int .i64 0, .int .i64 9, .slice (some ⟨w.heap.size, 0, none⟩) 3 3, .slice none 0 0] 27) = W at *
  have hI : ∀ t ∈ [T], t.I := fun t ht => by rw [hT] at ht; exact tab3_right.I ht
  have hR : RightF [T] := by rw [hT]; exact tab3_right
  obtain ⟨bs, hbs, hbs5⟩ : ∃ bs, bs = encFs [T] ∧ bs = [1, 0, 9, 3, 0, 0, 1, 6, 7, 0, 0] := ⟨_, rfl, by rw [hT]; exact tab3_enc⟩
  have hbl : bs.length ≤ 60000 := by rw [hbs5]; simp
  have hEL : EncF [T] = bs := by unfold EncF; rw [if_pos hR, if_pos (by rw [← hbs]; exact hbl), hbs]
  have hDE : decF bs = .ok [T] := by rw [hbs]; exact decF_enc hR (by rw [← hbs]; exact hbl)
  have HOF : Hid (offF T 7 = (6, true)) := Lib.hid (by rw [hT]; exact tab3_off)
  have HSM : Hid (∀ t ∈ [T], t.steps.length ≤ 1000000000 ∧ t.objs.length ≤ 1000000000) := Lib.hid (fun t ht => by rw [hT] at ht; simp only [List.mem_singleton] at ht; subst ht; simp [tab3])
  have HI := Lib.hid hI
  have HBS5 := Lib.hid hbs5
  have HDE := Lib.hid hDE
  have HEL := Lib.hid hEL
  clear hbs hbs5 hB0 hE0 hB1 hB01 hT hI hR hDE hEL
  go_wp2_with fail
  refine (FEncode_any [T] _ W hFT HI.out (by simp)).mono ?_
  rintro en w2 ⟨y2, rfl, ho2, hx2⟩
  rw [HEL.out] at ho2
  have hX2 := hE1.trans hx2
  have hi2 : InB w2 y2 bs := ho2.inV
  have hF2 := hFT.ext hx2
  obtain ⟨A2, c2, hv2, _, _⟩ := id hi2
  obtain ⟨n2, hn2⟩ : ∃ n2, n2 = bs.length := ⟨_, rfl⟩
  rw [← hn2] at hv2
  subst hv2
  clear hE1 hFT hx2 ho2 hn2
  go_wp2_with fail
  have hdec := FDecode_any _ bs w2 hi2 (by omega)
  rw [HDE.out] at hdec
  refine hdec.mono ?_
  rintro en w3 ⟨⟨y3, rfl, ho3⟩, hx3⟩
  have hX3 := hX2.trans hx3
  have hi3 := hi2.ext hx3
  have hF3 := hF2.ext hx3
  have hD3 := ho3.in_
  obtain ⟨A3, c3, hv3⟩ := hD3.form
  rw [List.length_singleton] at hv3
  subst hv3
  obtain ⟨b1, o1, ys, zs, hA, hra, hr1, hr2⟩ := hF3.at_ (j := 0) (by simp)
  injection hA with hA
  injection hA with e1 e2 _
  subst e1 e2
  have hld := ftab_load hra
  simp only [List.getElem_cons_zero, Nat.zero_mul, Nat.add_zero] at hld hr1 hr2
  obtain ⟨R1, cr1, rfl, _, _⟩ := id hr1
  obtain ⟨R2, cr2, rfl, _, _⟩ := id hr2
  clear hdec hX2 hi2 hF2 hx3 ho3 hra
  go_wp2_with first | refine wpList_load_run rfl 27 (.tmp 22) rfl _ _ rfl hld ?_
  refine (Offset_any T _ _ 7 w3 hr1 hr2 (HI.out T (by simp))).mono ?_
  rintro en w4 ⟨n4, b4, rfl, HO, hx4⟩
  rw [HOF.out] at HO
  injection HO with h1 h2
  subst h1 h2
  have hX4 := hX3.trans hx4
  have hi4 := hi3.ext hx4
  have hF4 := hF3.ext hx4
  have hD4 := hD3.ext hx4
  have hA := (Ext.refl w4).alloc (.cells #[.int .u8 1, .int .u8 0, .int .u8 9, .int .u8 3, .int .u8 0, .int .u8 0, .int .u8 1, .int .u8 6, .int .u8 7, .int .u8 0, .int .u8 0] 5)
  have hy : InB (w4.alloc (.cells #[.int .u8 1, .int .u8 0, .int .u8 9, .int .u8 3, .int .u8 0, .int .u8 0, .int .u8 1, .int .u8 6, .int .u8 7, .int .u8 0, .int .u8 0] 5)) (.slice (some ⟨w4.heap.size, 0, none⟩) 11 11) bs := by
    rw [HBS5.out]
    exact ⟨_, 11, rfl, Nat.le_refl _, Rd_blk (heap_alloc_new w4 (.cells #[.int .u8 1, .int .u8 0, .int .u8 9, .int .u8 3, .int .u8 0, .int .u8 0, .int .u8 1, .int .u8 6, .int .u8 7, .int .u8 0, .int .u8 0] 5))⟩
  have hi5 := hi4.ext hA
  have hF5 := hF4.ext hA
  have hD5 := hD4.ext hA
  have hX5 := hX4.trans hA
  have hbl4 : bs.length ≤ 4294967296 := by omega
  clear hld hr1 hr2 hX3 hi3 hF3 hD3 hx4 hX4 hi4 hF4 hD4 hA hbl
  go_wp2_with fail
  generalize w4.alloc (.cells #[.int .u8 1, .int .u8 0, .int .u8 9, .int .u8 3, .int .u8 0, .int .u8 0, .int .u8 1, .int .u8 6, .int .u8 7, .int .u8 0, .int .u8 0] 5) = w5 at *
  refine (sameList_any _ _ bs bs w5 hi5 hy hbl4 hbl4).mono ?_
  rintro en w6 ⟨rfl, n6, rfl⟩
  have hd : decide (bs = bs) = true := by simp
  rw [hd]
  have hXd := (Ext.refl w5).drewN n6
  have hX6 := hX5.trans hXd
  have hF6 := hF5.ext hXd
  have hD6 := hD5.ext hXd
  clear hi5 hy hbl4 hX5 hF5 hD5 hd hXd
  generalize w5.drewN n6 = w6 at *
  go_wp2_with fail
  refine (framesSelf_any _ _ [T] w6 hD6 hF6 (by simp) HSM.out).mono ?_
  rintro en w7 ⟨rfl, hx7⟩
  have hX7 := hX6.trans hx7
  clear hX6 hF6 hD6 hx7
  go_wp2_with fail
  go_ret
  exact ⟨rfl, hX7⟩
end Go.Proofs.Ytokmbdeafjmcjaa
