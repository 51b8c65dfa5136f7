/- Replies: how the program encodes them. -/
import Derived.Test.YtoeibcpjmoekpaaRepA
namespace Go.Proofs.Ytoeibcpjmoekpaa
open Go.RowKit
set_option linter.unusedVariables false

/-- a thread taken out of a row -/
structure Took (cs : Array Value) (t : Thr) (y : Value) : Prop where
  store : ∀ w : World, (Instr.storeAt 91 (.pointer (some ⟨w.heap.size, 0, none⟩)) (.agg cs)).run Try.prog (w.alloc (.cells #[.int .i64 0, .int .i64 0, .int .i64 0, .int .i64 0, .int .i64 0, .int .i64 0, .int .i64 0, .int .i64 0, .int .i64 0, .int .i64 0, .int .i64 0, .int .i64 0, .int .i64 0, .int .i64 0, .int .i64 0, .int .i64 0, .int .i64 0, .int .i64 0, .int .i64 0, .slice none 0 0] 91)) = .ok () (w.alloc (.cells cs 91))
  eq : cs = (thrCells (t, y)).toArray
  regs : t.regs.length = 16
theorem took {w : World} {b o : Nat} {t : Thr} {y : Value} (hrg : w.rangeAt b o (thrCells (t, y))) (hti : ThrIn w (t, y)) :
    ∃ cs, Took cs t y ∧ (Instr.loadAt 91 (.pointer (some ⟨b, o, none⟩))).run Try.prog w = .ok (.agg cs) w := by
  have hl := thr_len (z := (t, y)) hti.regs
  refine ⟨_, ⟨fun w => ?_, rfl, hti.regs⟩, run_loadAt_mid w b o _ _ _ hrg Try.underlying91 rfl (by rw [hl]; kernel_rfl)⟩
  refine run_storeAt_new w _ _ _ ?_ ?_ ?_
  · rw [List.size_toArray, hl]; kernel_rfl
  · show 20 = _; rw [List.size_toArray, hl]
  · exact all_oneCell_toArray hti.one
theorem wpList_load_run {P : Program} {ops : Array Oper} {rest : List Oper} {op : Oper} {a : Act} {w : World} {Q : Exit → Act → World → Prop} (hgd : op.guard = none) (ty : TypeId) (x : Operand) (ho : op.op = .load ty x)
    (v u : Value) (hx : a.eval x = v) (hr : (Instr.loadAt ty v).run P w = .ok u w) (h : wpList P ops Q rest (a.put op.dst u) w) : wpList P ops Q (op :: rest) a w :=
  wpList_plain hgd fun _ hK => by
    unfold Oper.wp execOp
    simp only [ho, hx, Sem.run_bind, hr, Result.andThen_ok, Sem.run_pure]
    exact hK _ _ h
theorem wpList_store_run {P : Program} {ops : Array Oper} {rest : List Oper} {op : Oper} {a : Act} {w : World} {Q : Exit → Act → World → Prop} (hgd : op.guard = none) (ty : TypeId) (x y : Operand) (ho : op.op = .store ty x y)
    (v u : Value) (w' : World) (hx : a.eval x = v) (hy : a.eval y = u) (hr : (Instr.storeAt ty v u).run P w = .ok () w') (h : wpList P ops Q rest (a.put op.dst undef) w') : wpList P ops Q (op :: rest) a w :=
  wpList_plain hgd fun _ hK => by
    unfold Oper.wp execOp
    simp only [ho, hx, hy, Sem.run_bind, hr, Result.andThen_ok, Sem.run_pure]
    exact hK _ _ h
theorem Took.cells {w : World} {g : Nat} {cs : Array Value} {t : Thr} {y : Value} (h : Took cs t y) (hb : w.heap[g]? = some (.cells cs 91 (0, 0))) :
    w.cell? ⟨g, 0, none⟩ = some (.int .i64 t.state) ∧ w.cell? ⟨g, 17, none⟩ = some (.int .i64 t.pc) ∧ w.cell? ⟨g, 18, none⟩ = some (.int .i64 t.func) ∧ w.cell? ⟨g, 19, none⟩ = some y := by
  obtain ⟨_, rfl, hr⟩ := h
  exact ⟨blk_at hb 0 _ (by rw [List.getElem?_toArray]; exact thr_0 (t, y)), blk_at hb 17 _ (by rw [List.getElem?_toArray]; exact thr_17 (z := (t, y)) hr), blk_at hb 18 _ (by rw [List.getElem?_toArray]; exact thr_18 (z := (t, y)) hr), blk_at hb 19 _ (by rw [List.getElem?_toArray]; exact thr_19 (z := (t, y)) hr)⟩
theorem Took.regsIn {w : World} {g : Nat} {cs : Array Value} {t : Thr} {y : Value} (h : Took cs t y) (hb : w.heap[g]? = some (.cells cs 91 (0, 0))) : InI w (.slice (some ⟨g, 1, none⟩) 16 16) t.regs := by
  obtain ⟨_, rfl, hr⟩ := h
  refine ⟨_, 16, by rw [hr], by omega, fun j u hu => ⟨_, rfl, ?_⟩⟩
  rw [List.getElem?_map] at hu
  have hj : j < t.regs.length := by
    rcases Nat.lt_or_ge j t.regs.length with h | h
    · exact h
    · rw [List.getElem?_eq_none h] at hu; cases hu
  rw [List.getElem?_eq_getElem hj] at hu
  simp only [Option.map_some, Option.some.injEq] at hu
  subst hu
  rw [Addr.add_mid]
  refine blk_at hb (1 + j) _ ?_
  rw [List.getElem?_toArray, Nat.add_comm]
  exact thr_r (z := (t, y)) hj
theorem thrsB_len (l : List Thr) (h : ∀ t ∈ l, t.Ok ∧ t.regs.length = 16 ∧ t.args.length ≤ 4) : (thrsB l).length ≤ 250 * l.length := by
  induction l with
  | nil => simp [thrsB]
  | cons t l ih =>
    obtain ⟨h1, h2, h3⟩ := h t (by simp)
    have e1 := listB_len t.nums h1.nums (by simp [Thr.nums, h2])
    have e2 := listB_len t.args h1.args (by omega)
    have e3 := ih (fun x hx => h x (by simp [hx]))
    have e4 : t.nums.length = 19 := by simp [Thr.nums, h2]
    rw [thrsB] at e3 ⊢
    rw [List.flatMap_cons, List.length_append, thrB, List.length_append, List.length_cons]
    omega
theorem ThrsAt.regs {w : World} {v : Value} {ts : List Thr} (h : ThrsAt w v ts) : ∀ t ∈ ts, t.regs.length = 16 := by
  obtain ⟨zs, rfl, _, h3⟩ := h
  intro t ht
  obtain ⟨z, hz, rfl⟩ := List.mem_map.1 ht
  exact (h3 z hz).regs
def EncRPost (r : Rep) (w : World) (e : Ending) (w' : World) : Prop := ∃ y er, e = .returned (.tuple #[y, .int .i64 er]) ∧ ((r.Fits ∧ er = 0 ∧ OwnV bv 5 w.heap.size w' y (encR r)) ∨ (¬ r.Fits ∧ er = 5 ∧ y = .slice none 0 0)) ∧ Ext w w'
theorem rangeAt_ext {w w' : World} {b o : Nat} {cs : List Value} (h : w.rangeAt b o cs) (he : Ext w w') : w'.rangeAt b o cs := fun j v hv => he.cell (h j v hv)

set_option maxHeartbeats 1000000 in
set_option maxRecDepth 100000 in
theorem EncodeReply_any (v : Value) (r : Rep) (w : World) (hr : RepAt w v r) (hok : r.Ok) :
    Calls Try.prog 32 #[v] w (EncRPost r w) := by
  obtain ⟨yw, yt, yo, rfl, hi⟩ := hr
  obtain ⟨A, ca, rfl, _, _⟩ := id hi.words
  obtain ⟨B, cb, rfl⟩ := hi.threads.form
  obtain ⟨C, cc, rfl⟩ := hi.output.form
  have HO := Lib.hid hok
  clear hok
  have HI := Lib.hid hi
  clear hi
  have HRG := Lib.hid HI.out.threads.regs
  go_enter Try.func32, Try.ntmps32
  go_upto_region 1 with fail
  obtain ⟨W, hW, hE, hB⟩ : ∃ W, W = w.alloc (.cells #[.int .i64 r.err, .slice A r.words.length ca, .slice B r.threads.length cb, .slice C r.output.length cc, .int .i64 r.s0, .int .i64 r.s1, .int .i64 r.s2, .int .i64 r.s3, .int .i64 r.s4, .int .i64 r.s5, .int .i64 r.s6] 58) ∧ Ext w W ∧ W.heap[w.heap.size]? = some (.cells #[.int .i64 r.err, .slice A r.words.length ca, .slice B r.threads.length cb, .slice C r.output.length cc, .int .i64 r.s0, .int .i64 r.s1, .int .i64 r.s2, .int .i64 r.s3, .int .i64 r.s4, .int .i64 r.s5, .int .i64 r.s6] 58 (0, 0)) := ⟨_, rfl, (Ext.refl w).alloc _, heap_alloc_new w _⟩
  rw [← hW]
  clear hW
  obtain ⟨q0, q1, q2, q3, q4, q5, q6, q7, q8, q9, q10⟩ := blk11 hB
  by_cases t0 : 128 < r.words.length
  · have e0 : (128 : Int) < (r.words.length : Int) := by omega
    go_wp2_with fail
    go_ret2
    exact ⟨_, _, rfl, .inr ⟨fun h => by have := h.words; omega, rfl, rfl⟩, hE⟩
  have e0 : ¬ (128 : Int) < (r.words.length : Int) := by omega
  by_cases t1 : 128 < r.output.length
  · have e1 : (128 : Int) < (r.output.length : Int) := by omega
    go_wp2_with fail
    go_ret2
    exact ⟨_, _, rfl, .inr ⟨fun h => by have := h.output; omega, rfl, rfl⟩, hE⟩
  have e1 : ¬ (128 : Int) < (r.output.length : Int) := by omega
  by_cases t2 : 8 < r.threads.length
  · have e2 : (8 : Int) < (r.threads.length : Int) := by omega
    go_wp2_with fail
    go_ret2
    exact ⟨_, _, rfl, .inr ⟨fun h => by have := h.threads; omega, rfl, rfl⟩, hE⟩
  have e2 : ¬ (8 : Int) < (r.threads.length : Int) := by omega
  go_wp2_with fail
  clear q0 q1 q2 q3 q4 q5 q6 q7 q8 q9 q10
  go_loopw [33] (fun i wr => ∃ j : Nat, j ≤ r.threads.length ∧ i = .int .i64 (j : Int) ∧ (∀ t ∈ r.threads.take j, t.args.length ≤ 4) ∧ Ext W wr) (fun i _ => r.threads.length - (intOf i).toNat)
  case atStart => exact ⟨0, by omega, rfl, by simp, Ext.refl _⟩
  case round =>
    obtain ⟨j, hj, rfl, hall, hX⟩ := hrel
    obtain ⟨wo, rfl⟩ : ∃ wo : World, wo = wr := ⟨_, rfl⟩
    have HA := Lib.hid hall
    clear hall
    by_cases hlt : j < r.threads.length
    · obtain ⟨b, off, y, rfl, hrg, hti⟩ := HI.out.threads.at_ hlt
      have HT := Lib.hid (List.take_succ_eq_append_getElem hlt)
      have HM := Lib.hid (List.getElem_mem hlt)
      generalize r.threads[j] = t at *
      obtain ⟨cs, tk, hld⟩ := took (rangeAt_ext hrg (hE.trans hX)) (hti.ext (hE.trans hX))
      obtain ⟨hreg, harg⟩ := hti.both
      obtain ⟨Y, cy, rfl, _, _⟩ := id harg
      have hij : (j : Int) < (r.threads.length : Int) := by omega
      have hst := tk.store
      clear hrg
      go_upto_region 6 with first | refine wpList_load_run rfl 91 (.tmp 35) rfl _ _ rfl hld ?_ | refine wpList_store_run rfl 91 (.tmp 5) (.tmp 36) rfl _ _ _ rfl rfl (hst wo) ?_
      have hB6 := heap_alloc_new wo (.cells cs 91)
      have hX6 := hX.trans ((Ext.refl wo).alloc (.cells cs 91))
      obtain ⟨_, _, _, c19⟩ := tk.cells hB6
      clear hst hld hB6 tk
      generalize wo.alloc (.cells cs 91) = w6 at *
      generalize wo.heap.size = g6 at *
      by_cases ha : 4 < t.args.length
      · have ea : (4 : Int) < (t.args.length : Int) := by omega
        go_wp2_with fail
        go_ret2
        exact ⟨_, _, rfl, .inr ⟨fun h => by have := h.args _ HM.out; omega, rfl, rfl⟩, hE.trans hX6⟩
      · have ea : ¬ (4 : Int) < (t.args.length : Int) := by omega
        go_wp2_with fail
        go_roundw
        case rel => exact ⟨j + 1, by omega, by go_num, by
          rw [HT.out]
          intro t' ht'
          rcases List.mem_append.1 ht' with h | h
          · exact HA.out t' h
          · simp only [List.mem_singleton] at h
            subst h; omega, hX6⟩
        case measure => simp [intOf]; omega
    · obtain rfl : j = r.threads.length := by omega
      have HF : Hid r.Fits := Lib.hid ⟨by omega, by omega, by omega, by have := HA.out; rwa [List.take_length] at this⟩
      clear HA
      obtain ⟨q0, q1, q2, q3, q4, q5, q6, q7, q8, q9, q10⟩ := blk11 (hX.heap hB)
      go_wp2_with fail
      refine (AppendInt_any (.slice none 0 0) [] r.err wo (InV.nil wo) (by simp) HO.out.err.1 HO.out.err.2).mono ?_
      rintro e w1 ⟨y1, rfl, ho1, he1⟩
      rw [List.nil_append] at ho1
      have hX1 := hX.trans he1
      have hzl := leb_len10 (zig_lt HO.out.err.1 HO.out.err.2)
      have hs1 := hX1.size
      clear q0 q1 q2 q3 q4 q5 q6 q7 q8 q9 q10
      go_wp2_with (at_builtin; go_must (refine wpList_appendV elem_u8 (fun _ => rfl) rfl (.const (.slice none 0 0)) (.tmp 44) rfl W.heap.size (.slice none 0 0) [] rfl (OwnV.nil _) y1 (leb (zig r.err)) rfl ho1.toV.inV (by simp; omega) (by omega) (by omega) (Hold.out ?_)))
      refine Hold.mk fun v2 w2 ho2 hg2 => ?_
      have hX2 := hg2.ext hX1 (by simp [Value.ownBlock])
      clear hg2 ho1 he1 hX hX1 hs1
      obtain ⟨q0, q1, q2, q3, q4, q5, q6, q7, q8, q9, q10⟩ := blk11 (hX2.heap hB)
      go_wp2_with fail
      refine (appendList_any W.heap.size v2 _ _ r.words w2 ho2 hX2.size (HI.out.words.ext (hE.trans hX2)) (fun v' W' hg => HI.out.words.ext (hE.trans (hg.ext hX2 ho2.ge))) HO.out.words (by omega) (by omega)).mono ?_
      rintro e w3 ⟨v3, rfl, ho3, hg3⟩
      have hX3 := hg3.ext hX2 ho2.ge
      have hwl := listB_len r.words HO.out.words (by omega)
      clear q0 q1 q2 q3 q4 q5 q6 q7 q8 q9 q10 hg3 ho2 hX2
      obtain ⟨q0, q1, q2, q3, q4, q5, q6, q7, q8, q9, q10⟩ := blk11 (hX3.heap hB)
      go_wp2_with fail
      refine (AppendUint_any (.slice none 0 0) [] (r.threads.length : Int) w3 (InV.nil w3) (by simp) (by omega)).mono ?_
      rintro e w4 ⟨y4, rfl, ho4, he4⟩
      rw [List.nil_append] at ho4
      have hul := uintB_len (v := (r.threads.length : Int)) (by omega)
      have hX4 := hX3.trans he4
      have hs4 := hX4.size
      clear q0 q1 q2 q3 q4 q5 q6 q7 q8 q9 q10
      go_wp2_with (at_builtin; go_must (refine wpList_appendV elem_u8 (fun _ => rfl) rfl (.tmp 50) (.tmp 54) rfl W.heap.size v3 _ rfl (ho3.ext he4) y4 (uintB r.threads.length) rfl ho4.toV.inV (by simp only [List.length_append]; omega) (by omega) (by omega) (Hold.out ?_)))
      refine Hold.mk fun v5 w5 ho5 hg5 => ?_
      have hX5 := hg5.ext hX4 ho3.ge
      clear hg5 ho4 ho3 he4 hX4 hs4 hX3
      obtain ⟨pre, hpre⟩ : ∃ pre, pre = leb (zig r.err) ++ (listB r.words ++ uintB r.threads.length) := ⟨_, rfl⟩
      rw [← hpre] at ho5
      have hpl : pre.length ≤ 1400 := by rw [hpre]; simp only [List.length_append]; omega
      have HP := Lib.hid hpre
      clear hpre hul hwl hzl
      obtain ⟨q0, q1, q2, q3, q4, q5, q6, q7, q8, q9, q10⟩ := blk11 (hX5.heap hB)
      go_wp2_with fail
      clear q0 q1 q2 q3 q4 q5 q6 q7 q8 q9 q10
      have H0 : OwnV bv 5 W.heap.size w5 v5 (pre ++ thrsB (r.threads.take 0)) := by simpa [thrsB] using ho5
      go_loopw [6, 59] (fun b i wr => ∃ j : Nat, j ≤ r.threads.length ∧ i = .int .i64 (j : Int) ∧ OwnV bv 5 W.heap.size wr b (pre ++ thrsB (r.threads.take j)) ∧ Ext W wr) (fun _ i _ => r.threads.length - (intOf i).toNat)
      case atStart => exact ⟨0, by omega, rfl, H0, hX5⟩
      case round =>
        clear H0 ho5 hX5
        obtain ⟨j, hj, rfl, hoj, hXj⟩ := hrel
        obtain ⟨wp, rfl⟩ : ∃ wp : World, wp = wr := ⟨_, rfl⟩
        have hln := thrsB_len (r.threads.take j) (fun t ht => ⟨HO.out.threads t (List.mem_of_mem_take ht), HRG.out t (List.mem_of_mem_take ht), HF.out.args t (List.mem_of_mem_take ht)⟩)
        have htl : (r.threads.take j).length ≤ j := by simp; omega
        by_cases hlt : j < r.threads.length
        · obtain ⟨b, off, y, rfl, hrg, hti⟩ := HI.out.threads.at_ hlt
          have HT := Lib.hid (thrsB_take r.threads j hlt)
          have HM := Lib.hid (List.getElem_mem hlt)
          generalize r.threads[j] = t at *
          obtain ⟨cs, tk, hld⟩ := took (rangeAt_ext hrg (hE.trans hXj)) (hti.ext (hE.trans hXj))
          obtain ⟨hreg, harg⟩ := hti.both
          obtain ⟨Y, cy, rfl, _, _⟩ := id harg
          have hij : (j : Int) < (r.threads.length : Int) := by omega
          have hal := HF.out.args _ HM.out
          have hst := tk.store
          clear hrg
          go_upto_region 15 with first | refine wpList_load_run rfl 91 (.tmp 61) rfl _ _ rfl hld ?_ | refine wpList_store_run rfl 91 (.tmp 8) (.tmp 62) rfl _ _ _ rfl rfl (hst wp) ?_
          have hB6 := heap_alloc_new wp (.cells cs 91)
          have hA6 := (Ext.refl wp).alloc (.cells cs 91)
          have hX6 := hXj.trans hA6
          have ho6 := hoj.ext hA6
          have hR6 := tk.regsIn hB6
          obtain ⟨c0, c17, c18, c19⟩ := tk.cells hB6
          have hlt6 := World.block_lt_of_cell? _ _ c0
          simp only at hlt6
          clear hst hld hoj hXj hA6
          generalize wp.alloc (.cells cs 91) = w6 at *
          generalize wp.heap.size = g6 at *
          go_upto_region 16 with fail
          have hA7 := (Ext.refl w6).alloc (.cells #[.int .i64 t.state, .int .i64 t.func, .int .i64 t.pc] 3)
          have hn7 := (OwnV_newN (f := iv) w6 [t.state, t.func, t.pc] 3 rfl (by omega) #[.int .i64 t.state, .int .i64 t.func, .int .i64 t.pc] rfl 3).low hX6.size
          have hB7 := hA7.heap hB6
          have hR7 := hR6.ext hA7
          have ho7 := ho6.ext hA7
          have hX7 := hX6.trans hA7
          have hs7 := hX7.size
          clear c0 c17 c18 c19 hA7 ho6 hR6 hB6
          generalize w6.alloc (.cells #[.int .i64 t.state, .int .i64 t.func, .int .i64 t.pc] 3) = w7 at *
          go_wp2_with (at_builtin; go_must (refine wpList_appendV elem_int (fun _ => rfl) rfl (.tmp 72) (.tmp 75) rfl W.heap.size _ [t.state, t.func, t.pc] rfl hn7 _ t.regs rfl hR7 (by simp; omega) (by omega) (by omega) (Hold.out ?_)))
          refine Hold.mk fun v8 w8 hn8 hg8 => ?_
          have hX8 := hg8.ext hX7 hn7.ge
          have ho8 := ho7.kept hg8.grown (OwnV.ne ho7 hn7 (by decide))
          have hB8 := blk_grown hB7 hg8.grown (hn7.ne_blk hB7 (by decide)).symm
          change OwnV iv 3 W.heap.size w8 v8 t.nums at hn8
          have hnl : t.nums.length = 19 := by simp [Thr.nums, hreg]
          have HN := Lib.hid hnl
          clear hnl hg8 ho7 hn7 hB7 hX7 hs7 hR7
          go_wp2_with fail
          refine (appendList_any W.heap.size _ v8 _ t.nums w8 ho8 hX8.size hn8.inV (fun v' W' hg => (hn8.kept hg.grown (OwnV.ne hn8 ho8 (by decide))).inV) (HO.out.threads _ HM.out).nums (by simp only [List.length_append]; omega) (by rw [HN.out]; omega)).mono ?_
          rintro e w9 ⟨v9, rfl, ho9, hg9⟩
          have hX9 := hg9.ext hX8 ho8.ge
          have hB9 := blk_grown hB8 hg9.grown (ho8.ne_blk hB8 (by decide)).symm
          have hl9 := listB_len t.nums (HO.out.threads _ HM.out).nums (by rw [HN.out]; omega)
          rw [HN.out] at hl9
          clear hg9 ho8 hn8 hB8 hX8
          obtain ⟨c0, c17, c18, c19⟩ := tk.cells hB9
          go_wp2_with fail
          refine (appendList_any W.heap.size v9 _ _ t.args w9 ho9 hX9.size (harg.ext (hE.trans hX9)) (fun v' W' hg => harg.ext (hE.trans (hg.ext hX9 ho9.ge))) (HO.out.threads _ HM.out).args (by simp only [List.length_append]; omega) (by omega)).mono ?_
          rintro e w10 ⟨v10, rfl, ho10, hg10⟩
          have hX10 := hg10.ext hX9 ho9.ge
          clear c0 c17 c18 c19 hg10 hB9 ho9
          go_wp2_with fail
          go_roundw
          case rel => exact ⟨j + 1, by omega, by go_num, by rw [HT.out]; simpa [List.append_assoc] using ho10, hX10⟩
          case measure => simp [intOf]; omega
        · obtain rfl : j = r.threads.length := by omega
          rw [List.take_length] at hoj hln
          have htb : (pre ++ thrsB r.threads).length ≤ 3400 := by simp only [List.length_append]; omega
          obtain ⟨q0, q1, q2, q3, q4, q5, q6, q7, q8, q9, q10⟩ := blk11 (hXj.heap hB)
          go_wp2_with fail
          clear q0 q1 q2 q3 q4 q5 q6 q7 q8 q9 q10
          go_loopw [10, 86] (fun x i wr => ∃ j : Nat, j ≤ r.output.length ∧ i = .int .i64 (j : Int) ∧ OwnV iv 3 W.heap.size wr x (outL (r.output.take j)) ∧ OwnV bv 5 W.heap.size wr u6 (pre ++ thrsB r.threads) ∧ Ext W wr) (fun _ i _ => r.output.length - (intOf i).toNat)
          case atStart => exact ⟨0, by omega, rfl, OwnV.nil _, hoj, hXj⟩
          case round =>
            clear hoj hXj
            obtain ⟨j, hj, rfl, hox, hoj, hXj⟩ := hrel
            obtain ⟨wq, rfl⟩ : ∃ wq : World, wq = wr := ⟨_, rfl⟩
            have hol := outL_len (r.output.take j)
            have htl : (r.output.take j).length ≤ j := by simp; omega
            by_cases hlt : j < r.output.length
            · obtain ⟨b, off, rfl, hc0, hc1⟩ := (HI.out.output.ext (hE.trans hXj)).at_ hlt
              have HT := Lib.hid (outL_take r.output j hlt)
              generalize r.output[j] = o at *
              have hij : (j : Int) < (r.output.length : Int) := by omega
              go_upto_region 23 with fail
              have hA6 := (Ext.refl wq).alloc (.cells #[.int .i64 o.1, .int .i64 o.2] 62)
              have hX6 := hXj.trans hA6
              have hB6 := heap_alloc_new wq (.cells #[.int .i64 o.1, .int .i64 o.2] 62)
              have c0 := blk_at hB6 0 _ rfl
              have c1 := blk_at hB6 1 _ rfl
              have hs6 := hX6.size
              have ho6 := hoj.ext hA6
              have hx6 := hox.ext hA6
              clear hc0 hc1 hA6 hoj hox hXj hB6
              generalize wq.alloc (.cells #[.int .i64 o.1, .int .i64 o.2] 62) = w6 at *
              generalize wq.heap.size = g6 at *
              have hA7 := (Ext.refl w6).alloc (.cells #[.int .i64 o.1, .int .i64 o.2] 3)
              have hs7 := hA7.size
              go_wp2_with (at_builtin; go_must (refine wpList_appendV elem_int (fun _ => rfl) rfl (.tmp 90) (.tmp 95) rfl W.heap.size _ _ rfl (hx6.ext hA7) _ [o.1, o.2] rfl (OwnV_newN (f := iv) w6 [o.1, o.2] 2 rfl (by omega) #[.int .i64 o.1, .int .i64 o.2] rfl 3).inV (by simp; omega) (by omega) (by omega) (Hold.out ?_)))
              refine Hold.mk fun v8 w8 hn8 hg8 => ?_
              have hX8 := hg8.ext (hX6.trans hA7) hx6.ge
              have ho8 := (ho6.ext hA7).kept hg8.grown (OwnV.ne (ho6.ext hA7) (hx6.ext hA7) (by decide))
              clear c0 c1 hg8 hA7 hs7 ho6 hx6 hX6 hs6
              go_wp2_with fail
              go_roundw
              case rel => exact ⟨j + 1, by omega, by go_num, by rw [HT.out]; exact hn8, ho8, hX8⟩
              case measure => simp [intOf]; omega
            · obtain rfl : j = r.output.length := by omega
              rw [List.take_length] at hox hol
              go_wp2_with fail
              refine (appendList_any W.heap.size _ _ _ (outL r.output) wq hoj hXj.size hox.inV (fun v' W' hg => (hox.kept hg.grown (OwnV.ne hox hoj (by decide))).inV) HO.out.output (by omega) (by omega)).mono ?_
              rintro e w9 ⟨v9, rfl, ho9, hg9⟩
              have hX9 := hg9.ext hXj hoj.ge
              have hl9 := listB_len (outL r.output) HO.out.output (by omega)
              clear hg9 hox hoj hXj
              obtain ⟨q0, q1, q2, q3, q4, q5, q6, q7, q8, q9, q10⟩ := blk11 (hX9.heap hB)
              go_upto_region 27 with fail
              have hA6 := (Ext.refl w9).alloc (.cells #[.int .i64 r.s0, .int .i64 r.s1, .int .i64 r.s2, .int .i64 r.s3, .int .i64 r.s4, .int .i64 r.s5, .int .i64 r.s6] 56)
              have hX6 := hX9.trans hA6
              have hB6 := heap_alloc_new w9 (.cells #[.int .i64 r.s0, .int .i64 r.s1, .int .i64 r.s2, .int .i64 r.s3, .int .i64 r.s4, .int .i64 r.s5, .int .i64 r.s6] 56)
              have c0 := blk_at hB6 0 _ rfl
              have c1 := blk_at hB6 1 _ rfl
              have c2 := blk_at hB6 2 _ rfl
              have c3 := blk_at hB6 3 _ rfl
              have c4 := blk_at hB6 4 _ rfl
              have c5 := blk_at hB6 5 _ rfl
              have c6 := blk_at hB6 6 _ rfl
              have ho6 := ho9.ext hA6
              clear q0 q1 q2 q3 q4 q5 q6 q7 q8 q9 q10 hA6 ho9 hB6 hX9
              generalize w9.alloc (.cells #[.int .i64 r.s0, .int .i64 r.s1, .int .i64 r.s2, .int .i64 r.s3, .int .i64 r.s4, .int .i64 r.s5, .int .i64 r.s6] 56) = w6 at *
              generalize w9.heap.size = g6 at *
              go_wp2_with fail
              have hA7 := (Ext.refl w6).alloc (.cells #[.int .i64 r.s0, .int .i64 r.s1, .int .i64 r.s2, .int .i64 r.s3, .int .i64 r.s4, .int .i64 r.s5, .int .i64 r.s6] 3)
              have hn7 := (OwnV_newN (f := iv) w6 r.stop 7 rfl (by omega) #[.int .i64 r.s0, .int .i64 r.s1, .int .i64 r.s2, .int .i64 r.s3, .int .i64 r.s4, .int .i64 r.s5, .int .i64 r.s6] rfl 3).low hX6.size
              have ho7 := ho6.ext hA7
              have hX7 := hX6.trans hA7
              clear c0 c1 c2 c3 c4 c5 c6 ho6 hX6 hA7
              generalize w6.alloc (.cells #[.int .i64 r.s0, .int .i64 r.s1, .int .i64 r.s2, .int .i64 r.s3, .int .i64 r.s4, .int .i64 r.s5, .int .i64 r.s6] 3) = w7 at *
              refine (appendList_any W.heap.size _ _ _ r.stop w7 ho7 hX7.size hn7.inV (fun v' W' hg => (hn7.kept hg.grown (OwnV.ne hn7 ho7 (by decide))).inV) HO.out.stop (by simp only [List.length_append] at htb ⊢; omega) (by simp [Rep.stop])).mono ?_
              rintro e w10 ⟨v10, rfl, ho10, hg10⟩
              have hX10 := hg10.ext hX7 ho7.ge
              clear hg10 ho7 hn7
              go_wp2_with fail
              go_ret2
              exact ⟨_, _, rfl, .inl ⟨HF.out, rfl, by rw [encR]; have := ho10.low hE.size; rw [HP.out] at this; simpa [List.append_assoc] using this⟩, hE.trans hX10⟩
end Go.Proofs.Ytoeibcpjmoekpaa
