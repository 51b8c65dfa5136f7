/- Send of the link. -/
import Derived.Test.YtnobepobalpccaaProtC
namespace Go.Proofs.Ytnobepobalpccaa
open Go.RowKit
set_option linter.unusedVariables false

/-- a datagram under way: when it is due, and its bytes -/
abbrev FZ := Int × Body
def flCells (z : FZ) : List Value := [.int .i64 z.1, bodyV z.2]
def FZ.plain (z : FZ) : Int × List UInt8 := (z.1, z.2.b)
theorem fl_info : (Try.prog.info? 64).map (fun i => (i.zero, i.size, i.bytes)) = some (some (.agg #[.int .i64 0, .slice none 0 0]), 2, 32) := by kernel_rfl
theorem elem_fl : ElemN Try.prog 31 64 2 32 := by
  rcases hi : Try.prog.info? 64 with _ | i
  · have := fl_info; rw [hi] at this; cases this
  · have := fl_info
    rw [hi] at this
    simp only [Option.map_some, Option.some.injEq, Prod.mk.injEq] at this
    exact ⟨Try.underlying31, by omega, i, _, hi, this.1, this.2.1, this.2.2, rfl⟩
def clampD (d : Int) : Int := min (max d 1) 100
theorem clampD_range (d : Int) : 1 ≤ clampD d ∧ clampD d ≤ 100 := by unfold clampD; omega
/-- what a datagram adds to the flights -/
def sentL (f : Fate) (b : List UInt8) (now : Int) (k : Nat) : List (Int × List UInt8) := (f.delays.take k).map fun d => (now + clampD d, damagedL b f)
theorem sentL_step {f : Fate} {b : List UInt8} {now : Int} {k : Nat} (h : k < f.delays.length) : sentL f b now (k + 1) = sentL f b now k ++ [(now + clampD f.delays[k], damagedL b f)] := by
  rw [sentL, List.take_succ_eq_append_getElem h, List.map_append, sentL]; rfl
theorem run_min (P : Program) (ats : Array TypeId) (ty : TypeId) (a b : Int) (w : World) : (Builtin.min_ ats ty #[.int .i64 a, .int .i64 b]).run P w = .ok (.int .i64 (min a b)) w := by
  by_cases h : b < a
  · simp [Builtin.min_, Builtin.min2, h, go_sem]; omega
  · simp [Builtin.min_, Builtin.min2, h, go_sem]; omega
theorem exec_max {P : Program} {W : World} {e : Operand → Value} {op : Oper} (x y : Operand) (t : TypeId) (ho : op.op = .call { callee := .builtin .max, args := #[x, y], argTypes := #[t, t] }) (m n : Int) (hx : e x = .int .i64 m) (hy : e y = .int .i64 n) : (execOp e op).run P W = .ok (.value (.int .i64 (max m n))) W := by
  unfold execOp
  simp only [ho, resolve, invoke, builtin, Sem.run_bind, Sem.run_pure, Result.andThen_ok, List.map_toArray, List.map_cons, List.map_nil, hx, hy, run_max]
theorem exec_min {P : Program} {W : World} {e : Operand → Value} {op : Oper} (x y : Operand) (t : TypeId) (ho : op.op = .call { callee := .builtin .min, args := #[x, y], argTypes := #[t, t] }) (m n : Int) (hx : e x = .int .i64 m) (hy : e y = .int .i64 n) : (execOp e op).run P W = .ok (.value (.int .i64 (min m n))) W := by
  unfold execOp
  simp only [ho, resolve, invoke, builtin, Sem.run_bind, Sem.run_pure, Result.andThen_ok, List.map_toArray, List.map_cons, List.map_nil, hx, hy, run_min]
theorem exec_rowOne {P : Program} {t e : TypeId} {k bytes : Nat} (he : ElemN P t e k bytes) {o : Oper} {ev : Operand → Value} {w : World} (x : Operand) (ho : o.op = .buildSlice t 1 #[(0, x)]) (cs : Array Value) (hx : ev x = .agg cs) (hs : cs.size = k) (hk : k ≤ 1000) :
    (execOp ev o).run P w = .ok (.value (.slice (some ⟨w.heap.size, 0, none⟩) 1 1)) (w.alloc (.cells cs e)) := by
  unfold execOp
  simp only [ho, Sem.run_bind, List.map_toArray, List.map_cons, List.map_nil, hx, run_rowOne he w cs hs hk, Result.andThen_ok, Sem.run_pure]
def SendPost34 (zs : List FZ) (f : Fate) (b : List UInt8) (now : Int) (w : World) (en : Ending) (w' : World) : Prop := ∃ y new, en = .returned y ∧ OwnR flCells 2 64 w.heap.size w' y (zs ++ new) ∧ new.map FZ.plain = sentL f b now 8 ∧ (∀ z ∈ new, OwnV bv 5 w.heap.size w' (bodyV z.2) z.2.b) ∧ Ext w w'
theorem fl_one (z : FZ) : ∀ u ∈ flCells z, u.oneCell' = true := by
  intro u hu
  simp only [flCells, List.mem_cons, List.not_mem_nil, or_false] at hu
  rcases hu with rfl | rfl <;> rfl
set_option maxHeartbeats 1000000 in
set_option maxRecDepth 100000 in
theorem Send34_any (x yd xb : Value) (zs : List FZ) (f : Fate) (b : List UInt8) (now : Int) (w : World) (hx : InR flCells w x zs) (hl : zs.length ≤ 100000000) (hd : InI w yd f.delays) (hdl : f.delays.length ≤ 1000000) (hxb : InB w xb b) (hb : b.length ≤ 1000000)
    (hm : 0 ≤ f.mask ∧ f.mask < 65536) (hat : -1000000 ≤ f.at_ ∧ f.at_ ≤ 1000000) (hn : tame now) :
    Calls Try.prog 16 #[x, .agg #[yd, .int .i64 f.at_, .int .i64 f.mask], xb, .int .i64 now] w (SendPost34 zs f b now w) := by
  obtain ⟨A, c, rfl, _, _⟩ := id hx
  obtain ⟨D, cd, rfl, _, hdr⟩ := id hd
  obtain ⟨B, cb, rfl, _, _⟩ := id hxb
  have HN := Lib.hid hn
  clear hn
  go_enter Try.func16, Try.ntmps16
  go_upto_region 1 with fail
  have hB := heap_alloc_new w (.cells #[.slice D f.delays.length cd, .int .i64 f.at_, .int .i64 f.mask] 44)
  have hE := (Ext.refl w).alloc (.cells #[.slice D f.delays.length cd, .int .i64 f.at_, .int .i64 f.mask] 44)
  have HSZ : Hid ((w.alloc (.cells #[.slice D f.delays.length cd, .int .i64 f.at_, .int .i64 f.mask] 44)).heap.size = w.heap.size + 1) := Lib.hid (by simp)
  generalize w.alloc (.cells #[.slice D f.delays.length cd, .int .i64 f.at_, .int .i64 f.mask] 44) = W at *
  have hA1 := (Ext.refl W).alloc (.cells #[] 64)
  go_wp2_with (at_builtin; go_must (refine wpList_appendR elem_fl rfl (.tmp 11) (.tmp 12) rfl W.heap.size _ [] rfl (ownR_empty W 64) _ zs rfl (hx.ext (hE.trans hA1)) (fun _ _ => rfl) (fun z _ => fl_one z) (by simp; omega) (by omega) hA1.size ?_); intro v2 w2 ho2 hg2; refine Hold.out ?_)
  refine Hold.mk ?_
  have hE2 : Ext W w2 := hg2.ext hA1 (ownR_empty (f := flCells) (k := 2) W 64).ge
  have ho3 : OwnR flCells 2 64 (w.heap.size + 1) w2 v2 (zs ++ []) := by rw [← HSZ.out]; simpa using ho2
  have hB2 := hE2.heap hB
  have hEw := hE.trans hE2
  clear ho2 hg2 hA1 hE2 hB hE HSZ
  go_wp2_with fail
  go_loopw [9, 10] (fun v i wr => ∃ (j : Nat) (new : List FZ), j ≤ f.delays.length ∧ j ≤ 8 ∧ i = .int .i64 (j : Int) ∧ Hid (new.map FZ.plain = sentL f b now j) ∧ new.length = j ∧ OwnR flCells 2 64 (w.heap.size + 1) wr v (zs ++ new) ∧ Hid (∀ z ∈ new, OwnV bv 5 (w.heap.size + 1) wr (bodyV z.2) z.2.b) ∧ wr.heap[w.heap.size]? = some (.cells #[.slice D f.delays.length cd, .int .i64 f.at_, .int .i64 f.mask] 44 (0, 0)) ∧ Ext w wr) (fun _ i _ => 8 - (intOf i).toNat)
  case atStart => exact ⟨0, [], by omega, by omega, rfl, Lib.hid rfl, rfl, ho3, Lib.hid (by simp), hB2, hEw⟩
  case round =>
    clear ho3 hB2 hEw
    obtain ⟨j, new, hj, hj8, rfl, HNW, hnl, ho, HOB, hB, hE⟩ := hrel
    obtain ⟨wo, rfl⟩ : ∃ wo : World, wo = wr := ⟨_, rfl⟩
    have HNL := Lib.hid hnl
    clear hnl
    obtain ⟨q0, q1, q2⟩ := blk3 hB
    have hlt9 := heap_lt hB
    by_cases h1 : j < f.delays.length
    · have h1' : decide ((j : Int) < (f.delays.length : Int)) = true := by simp; omega
      by_cases h2 : j < 8
      · have h2' : decide ((j : Int) < 8) = true := by simp; omega
        have hij : (j : Int) < (f.delays.length : Int) := by omega
        obtain ⟨bb, oo, rfl, hcell⟩ := (hdr.ext hE).at2 (k := j) (by simpa using h1)
        have hcell' : wo.cell? ⟨bb, oo + j, none⟩ = some (.int .i64 f.delays[j]) := by rw [hcell]; simp [iv]
        have HST := Lib.hid (sentL_step (b := b) (now := now) h1)
        have hcr := clampD_range f.delays[j]
        obtain ⟨cl, hcl⟩ : ∃ cl, cl = clampD f.delays[j] := ⟨_, rfl⟩
        rw [← hcl] at hcr HST
        have hcl' : min (max f.delays[j] 1) 100 = cl := by rw [hcl]; rfl
        clear hcl hcell
        generalize f.delays[j] = dj at *
        have hwr : IntKind.i64.wrap (now + cl) = now + cl := by have := HN.out; unfold tame at this; rw [IntKind.wrap_i64]; omega
        obtain ⟨V, cv, hv, _, _⟩ := ho.inR
        obtain ⟨N, hN⟩ : ∃ N, N = (zs ++ new).length := ⟨_, rfl⟩
        rw [← hN] at hv
        subst hv
        have HNN := Lib.hid hN
        clear hN
        go_upto_region 5 with fail
        clear q0 q1 q2
        refine wp_region_X #[true, true, true, true, true, true, true, true, true, true, true, true, true, true, true, false, false] 15 2 (by kernel_rfl) rfl ?_
        refine wpX_vt 0 (.slice V N cv) rfl rfl (by kernel_rfl) (by kernel_rfl) (by kernel_rfl) (fun _ _ _ _ h => h) (by kernel_rfl) rfl (by rfl) (fun W' hW => by
          skip
          go_simp) ?_
        simp only [List.setIfInBounds_toArray, List.set_cons_zero, List.set_cons_succ]
        refine wpX_vt 1 (.int .i64 now) rfl rfl (by kernel_rfl) (by kernel_rfl) (by kernel_rfl) (fun _ _ _ _ h => h) (by kernel_rfl) rfl (by rfl) (fun W' hW => by
          skip
          go_simp) ?_
        simp only [List.setIfInBounds_toArray, List.set_cons_zero, List.set_cons_succ]
        refine wpX_l 2 (.pointer (some ⟨w.heap.size, 0, none⟩)) rfl rfl (by kernel_rfl) (by kernel_rfl) (by kernel_rfl) (fun _ _ _ _ h => h) (LateOK_any rfl (by kernel_rfl) (fun _ _ _ h => h)) rfl (by rfl) (fun W' => by go_simp) ?_
        simp only [List.setIfInBounds_toArray, List.set_cons_zero, List.set_cons_succ]
        refine wpX_vt 3 (.slice (some ⟨bb, oo, none⟩) f.delays.length cd) rfl rfl (by kernel_rfl) (by kernel_rfl) (by kernel_rfl) (fun _ _ _ _ h => h) (by kernel_rfl) rfl (by rfl) (fun W' hW => by
          have z := blk_at ((((Ext.refl wo).drew).trans hW).heap hB) 0 _ rfl
          go_simp) ?_
        simp only [List.setIfInBounds_toArray, List.set_cons_zero, List.set_cons_succ]
        refine wpX_vt 4 (.int .i64 (j : Int)) rfl rfl (by kernel_rfl) (by kernel_rfl) (by kernel_rfl) (fun _ _ _ _ h => h) (by kernel_rfl) rfl (by rfl) (fun W' hW => by
          skip
          go_simp) ?_
        simp only [List.setIfInBounds_toArray, List.set_cons_zero, List.set_cons_succ]
        refine wpX_vt 5 (.pointer (some ⟨bb, oo + j, none⟩)) rfl rfl (by kernel_rfl) (by kernel_rfl) (by kernel_rfl) (fun _ _ _ _ h => h) (by kernel_rfl) rfl (by rfl) (fun W' hW => by
          skip
          go_simp) ?_
        simp only [List.setIfInBounds_toArray, List.set_cons_zero, List.set_cons_succ]
        refine wpX_vt 6 (.int .i64 dj) rfl rfl (by kernel_rfl) (by kernel_rfl) (by kernel_rfl) (fun _ _ _ _ h => h) (by kernel_rfl) rfl (by rfl) (fun W' hW => by
          have z := (((Ext.refl wo).drew).trans hW).cell hcell'
          go_simp) ?_
        simp only [List.setIfInBounds_toArray, List.set_cons_zero, List.set_cons_succ]
        refine wpX_vt 7 (.int .i64 (max dj 1)) rfl rfl (by kernel_rfl) (by kernel_rfl) (by kernel_rfl) (fun _ _ _ _ h => h) (by kernel_rfl) rfl (by rfl) (fun W' hW => exec_max (.tmp 31) (.const (.int .i64 1)) _ rfl dj 1 rfl rfl) ?_
        simp only [List.setIfInBounds_toArray, List.set_cons_zero, List.set_cons_succ]
        refine wpX_vt 8 (.int .i64 (min (max dj 1) 100)) rfl rfl (by kernel_rfl) (by kernel_rfl) (by kernel_rfl) (fun _ _ _ _ h => h) (by kernel_rfl) rfl (by rfl) (fun W' hW => exec_min (.tmp 32) (.const (.int .i64 100)) _ rfl (max dj 1) 100 rfl rfl) ?_
        simp only [List.setIfInBounds_toArray, List.set_cons_zero, List.set_cons_succ]
        rw [hcl']
        refine wpX_vt 9 (.int .i64 (now + cl)) rfl rfl (by kernel_rfl) (by kernel_rfl) (by kernel_rfl) (fun _ _ _ _ h => h) (by kernel_rfl) rfl (by rfl) (fun W' hW => by
          skip
          go_simp) ?_
        simp only [List.setIfInBounds_toArray, List.set_cons_zero, List.set_cons_succ]
        refine wpX_vt 10 (.slice B b.length cb) rfl rfl (by kernel_rfl) (by kernel_rfl) (by kernel_rfl) (fun _ _ _ _ h => h) (by kernel_rfl) rfl (by rfl) (fun W' hW => by
          skip
          go_simp) ?_
        simp only [List.setIfInBounds_toArray, List.set_cons_zero, List.set_cons_succ]
        refine wpX_vt 11 (.agg #[.slice (some ⟨bb, oo, none⟩) f.delays.length cd, .int .i64 f.at_, .int .i64 f.mask]) rfl rfl (by kernel_rfl) (by kernel_rfl) (by kernel_rfl) (fun _ _ _ _ h => h) (by kernel_rfl) rfl (by rfl) (fun W' hW => exec_load 44 (.tmp 5) rfl _ _ rfl (run_loadAt_blk (P := Try.prog) W' w.heap.size 44 44 _ (0, 0) _ ((((Ext.refl wo).drew).trans hW).heap hB) Try.underlying44 rfl ft_size)) ?_
        simp only [List.setIfInBounds_toArray, List.set_cons_zero, List.set_cons_succ]
        refine wpX_c 12 23 #[.slice B b.length cb, .agg #[.slice (some ⟨bb, oo, none⟩) f.delays.length cd, .int .i64 f.at_, .int .i64 f.mask]] rfl rfl (by kernel_rfl) rfl rfl (fun W => by go_simp) ?_
        intro Wd hWd
        have hXd := ((Ext.refl wo).drew).trans hWd
        refine (damaged_any _ _ b f Wd (hxb.ext (hE.trans hXd)) hb hm rfl hat).mono ?_
        rintro en w6 ⟨y6, rfl, ho6, hx6⟩
        refine ⟨_, rfl, hx6, ?_⟩
        obtain ⟨Y, cy, rfl, _, _⟩ := ho6.inV
        have hX6 := hXd.trans hx6
        generalize damagedL b f = db at *
        simp only [List.setIfInBounds_toArray, List.set_cons_zero, List.set_cons_succ]
        refine wpX_vt 13 (.agg #[.int .i64 (now + cl), .slice Y db.length cy]) rfl rfl (by kernel_rfl) (by kernel_rfl) (by kernel_rfl) (fun _ _ _ _ h => h) (by kernel_rfl) rfl (by rfl) (fun W' hW => by
          skip
          go_simp) ?_
        simp only [List.setIfInBounds_toArray, List.set_cons_zero, List.set_cons_succ]
        refine wpX_m 14 rfl rfl (by kernel_rfl) rfl (by rfl) fun W7 hW7 => ?_
        have hA7 := (Ext.refl W7).alloc (.cells #[.int .i64 (now + cl), .slice Y db.length cy] 64)
        refine ⟨.slice (some ⟨W7.heap.size, 0, none⟩) 1 1, W7.alloc (.cells #[.int .i64 (now + cl), .slice Y db.length cy] 64), exec_rowOne elem_fl (.tmp 38) rfl #[.int .i64 (now + cl), .slice Y db.length cy] rfl rfl (by omega), hA7, ?_⟩
        simp only [List.setIfInBounds_toArray, List.set_cons_zero, List.set_cons_succ]
        have hn7 := OwnR_one (f := flCells) W7 (now + cl, ⟨Y, db.length, cy, db⟩) rfl 64
        refine wpX_end rfl fun W9 hW9 => tail_seq 15 rfl (by kernel_rfl) ?_
        simp only [List.drop_succ_cons, List.drop_zero]
        have hX9 := (hX6.trans hW7).trans (hA7.trans hW9)
        have hn9 := hn7.inR.ext hW9
        have ho7 := ho.ext hX9
        have ho6' := ho6.ext (hW7.trans (hA7.trans hW9))
        have hs7 : w.heap.size + 1 ≤ W9.heap.size := Nat.le_trans (heap_lt hB) hX9.size
        have hB9 := hX9.heap hB
        have hE9 := hE.trans hX9
        have hNl : N ≤ 100000010 := by have := HNN.out; have := HNL.out; simp at *; omega
        go_wp2_with (at_builtin; go_must (refine wpList_appendR elem_fl rfl (.tmp 25) (.tmp 39) rfl (w.heap.size + 1) _ (zs ++ new) rfl ho7 _ [((now + cl, ⟨Y, db.length, cy, db⟩) : FZ)] rfl hn9 (fun _ _ => rfl) (fun z _ => fl_one z) (by have := HNN.out; simp at *; omega) (by omega) hs7 ?_); intro v8 w8 ho8 hg8; refine Hold.out ?_)
        refine Hold.mk ?_
        go_wp2_with fail
        refine NoPanic.normal ?_
        have hE8 := hg8.ext hE9 (fun k hk => by have := ho7.ge k hk; omega)
        have hB8 := blk_grown hB9 hg8.grown (fun e => by have := ho7.ge _ e.symm; omega)
        have HOB8 : Hid (∀ z' ∈ new ++ [((now + cl, ⟨Y, db.length, cy, db⟩) : FZ)], OwnV bv 5 (w.heap.size + 1) w8 (bodyV z'.2) z'.2.b) := Lib.hid fun z' hz' => by
          rcases List.mem_append.1 hz' with hz' | hz'
          · have h := (HOB.out z' hz').ext hX9
            exact h.kept hg8.grown (row_ne h ho7 (by decide))
          · simp only [List.mem_singleton] at hz'
            subst hz'
            have h : OwnV bv 5 (w.heap.size + 1) W9 (.slice Y db.length cy) db := ho6'.low (Nat.le_trans (heap_lt hB) hXd.size)
            exact h.kept hg8.grown (row_ne h ho7 (by decide))
        rw [List.append_assoc] at ho8
        go_wp2_with fail
        go_roundw
        case rel => exact ⟨j + 1, new ++ [(now + cl, ⟨Y, db.length, cy, db⟩)], by omega, by omega, by go_num, Lib.hid (by rw [List.map_append, HNW.out, HST.out]; rfl), by simp [HNL.out], ho8, HOB8, hB8, hE8⟩
        case measure => simp [intOf]; omega
      · have h2' : decide ((j : Int) < 8) = false := by simp; omega
        go_wp2_with fail
        go_ret
        exact ⟨_, new, rfl, ho.low (by omega), by rw [HNW.out, show j = 8 by omega], fun z hz => (HOB.out z hz).low (by omega), hE⟩
    · have h1' : decide ((j : Int) < (f.delays.length : Int)) = false := by simp; omega
      go_wp2_with fail
      go_ret
      exact ⟨_, new, rfl, ho.low (by omega), by rw [HNW.out, sentL, sentL, List.take_of_length_le (by omega), List.take_of_length_le (by omega)], fun z hz => (HOB.out z hz).low (by omega), hE⟩
end Go.Proofs.Ytnobepobalpccaa
