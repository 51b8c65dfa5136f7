/- The walk that reads a line table. -/
import Derived.Test.YtokmbdeafjmcjaaLinJ
namespace Go.Proofs.Ytokmbdeafjmcjaa
open Go.RowKit
set_option linter.unusedVariables false

def TabPost (gr : Nat) (x : Value) (pos lo hi : Int) (rows : List LRow) (w : World) (en : Ending) (w' : World) : Prop :=
  ∃ y, en = .returned (.tuple #[.agg #[.int .i64 lo, .int .i64 hi, y], .int .i64 0]) ∧ OwnR lrowCells 4 53 w.heap.size w' y rows ∧ w'.heap[gr]? = some (.cells #[x, .int .i64 pos] 100 (0, 0)) ∧ Kept w.heap.size [gr] w w'
set_option maxHeartbeats 40000000 in
set_option maxRecDepth 100000 in
theorem table_any (gr : Nat) (x : Value) (b pre rest : List UInt8) (lo hi : Int) (ops : List LOp) (w : World) (hx : St [gr] w (fun W => InB W x b)) (hb : w.heap[gr]? = some (.cells #[x, .int .i64 (pre.length : Int)] 100 (0, 0)))
    (hby : b = pre ++ (uintB lo ++ (uintB hi ++ (ops.flatMap opB ++ 0 :: rest)))) (hl : b.length ≤ 1000000) (hlo : 0 ≤ lo ∧ lo ≤ 1048576) (hhi : 0 ≤ hi ∧ hi ≤ 1048576) (hok : okOps (row0 lo) ops) (hR : (rowsOf (row0 lo) ops).length ≤ 8000) :
    Calls Try.prog 63 #[.pointer (some ⟨gr, 0, none⟩)] w (TabPost gr x ((pre ++ (uintB lo ++ (uintB hi ++ (ops.flatMap opB ++ [0])))).length : Int) lo hi (rowsOf (row0 lo) ops) w) := by
  obtain ⟨A, c, rfl, _, hrd0⟩ := hx.out
  obtain ⟨bb, oo, rfl, hz0⟩ := hrd0.at2 (k := 0) (by rw [hby]; simp; omega)
  clear hz0 hrd0
  have HBC : Hid (∀ W, Kept w.heap.size [gr] w W → ∀ i (v : UInt8), b[i]? = some v → W.cell? ⟨bb, oo + i, none⟩ = some (.int .u8 (v.toNat : Int))) := Lib.hid fun W hk i v hv => by
    obtain ⟨A', c', e', _, hrd⟩ := hx W hk
    obtain ⟨hlt, e⟩ := List.getElem?_eq_some_iff.1 hv
    injection e' with e1 e2 e3
    subst e1
    obtain ⟨b', o', e4, hc⟩ := hrd.at2 (k := i) (by simpa using hlt)
    cases e4
    rw [hc, List.getElem_map, e]
    rfl
  have hgr := heap_lt hb
  have HBY := Lib.hid hby
  have HOK := Lib.hid hok
  have HR := Lib.hid hR
  obtain ⟨nb, hnb⟩ : ∃ n, n = b.length := ⟨_, rfl⟩
  have HX := Lib.hid hx
  have HB := Lib.hid hb
  have HNB := Lib.hid hnb
  clear hok hR hby hx hb
  go_enter Try.func63, Try.ntmps63
  go_upto_region 3 with fail
  obtain ⟨W, hW, hE, hG2, hG4⟩ : ∃ W, W = (w.alloc (.cells #[.int .i64 0, .int .i64 0, .slice none 0 0] 46)).alloc (.cells #[.int .i64 0, .int .i64 0, .slice none 0 0] 46) ∧ Ext w W ∧ W.heap[w.heap.size]? = some (.cells #[.int .i64 0, .int .i64 0, .slice none 0 0] 46 (0, 0)) ∧ W.heap[w.heap.size + 1]? = some (.cells #[.int .i64 0, .int .i64 0, .slice none 0 0] 46 (0, 0)) := ⟨_, rfl, ((Ext.refl w).alloc _).alloc _, ((Ext.refl _).alloc _).heap (heap_alloc_new w _), by have := heap_alloc_new (w.alloc (.cells #[.int .i64 0, .int .i64 0, .slice none 0 0] 46)) (.cells #[.int .i64 0, .int .i64 0, .slice none 0 0] 46); simpa using this⟩
  rw [← hW]
  clear hW
  obtain ⟨g2, hg2⟩ : ∃ g, g = w.heap.size := ⟨_, rfl⟩
  obtain ⟨g4, hg4⟩ : ∃ g, g = w.heap.size + 1 := ⟨_, rfl⟩
  have hlow : w.heap.size ≤ g2 ∧ w.heap.size ≤ g4 ∧ g2 ≠ g4 := by omega
  rw [← hg4] at hG4 ⊢
  rw [← hg2] at hG2 ⊢
  clear hg2 hg4
  have hB := hE.heap HB.out
  go_wp2_with fail
  refine (rdU_any gr _ b _ lo _ W (HX.out.ext hE).out hB (uintR_at hlo.1 (by omega) HBY.out) hl).mono ?_
  rintro en w1 ⟨rfl, hb1, hgw⟩
  have n2r := ne_of_types hG2 hB (by decide)
  have n4r := ne_of_types hG4 hB (by decide)
  have hG21 := blk_grown hG2 hgw (fun e => n2r (by cases e; rfl))
  have hG41 := blk_grown hG4 hgw (fun e => n4r (by cases e; rfl))
  have hk1 : Kept w.heap.size [gr] w w1 := (Kept.of_ext hE (Nat.le_refl _)).trans (Kept.of_grown hgw hE.size (fun k e => by cases e; exact .inr (by simp)))
  have f0 := blk_free hG41 0
  have q0 := blk_at hG41 0 _ rfl
  have hlt := heap_lt hG41
  clear hB hgw hG2 hG4 hE
  go_upto_region 4 with fail
  have gs := gset w1 ⟨g4, 0, none⟩ (.int .i64 lo)
  have hb2 := blk_grown hb1 gs (fun e => n4r (by cases e; rfl))
  have hG22 := blk_grown hG21 gs (fun e => hlow.2.2 (by cases e; rfl))
  have hG42 := blk_set hG41 0 (.int .i64 lo)
  have hk2 := hk1.trans (Kept.of_grown gs hk1.size (fun k e => by cases e; exact .inl hlow.2.1))
  clear gs hb1 hG21 hG41 hk1 f0 q0 hlt
  generalize w1.setCell ⟨g4, 0, none⟩ (.int .i64 lo) = w2 at *
  go_wp2_with fail
  refine (rdU_any gr _ b _ hi _ w2 (HX.out w2 hk2) hb2 (uintR_at hhi.1 (by omega) (by rw [HBY.out, List.append_assoc])) hl).mono ?_
  rintro en w3 ⟨rfl, hb3, hgw⟩
  have hG23 := blk_grown hG22 hgw (fun e => n2r (by cases e; rfl))
  have hG43 := blk_grown hG42 hgw (fun e => n4r (by cases e; rfl))
  have hk3 := hk2.trans (Kept.of_grown hgw hk2.size (fun k e => by cases e; exact .inr (by simp)))
  have f0 := blk_free hG43 1
  have q0 := blk_at hG43 1 _ rfl
  have hlt := heap_lt hG43
  clear hgw hb2 hG22 hG42 hk2
  go_upto_region 7 with fail
  have gs := gset w3 ⟨g4, 1, none⟩ (.int .i64 hi)
  have hb4 := blk_grown hb3 gs (fun e => n4r (by cases e; rfl))
  have hG24 := blk_grown hG23 gs (fun e => hlow.2.2 (by cases e; rfl))
  have hG44 : (w3.setCell ⟨g4, 1, none⟩ (.int .i64 hi)).heap[g4]? = some (.cells #[.int .i64 lo, .int .i64 hi, .slice none 0 0] 46 (0, 0)) := blk_set hG43 1 (.int .i64 hi)
  have hk4 := hk3.trans (Kept.of_grown gs hk3.size (fun k e => by cases e; exact .inl hlow.2.1))
  clear gs hb3 hG23 hG43 hk3 f0 q0 hlt
  generalize w3.setCell ⟨g4, 1, none⟩ (.int .i64 hi) = w4 at *
  obtain ⟨p0, p1, p2⟩ := blkT hG44
  obtain ⟨hst, hG6, hXG⟩ := box_new (P := Try.prog) w4 53 #[.int .i64 0, .int .i64 0, .int .i64 0, .bool false] #[.int .i64 lo, .int .i64 0, .int .i64 (-1), .bool false] rw_size rfl (by simp [Value.oneCell'])
  go_upto_region 10 with first | refine wpList_store_run rfl 53 (.tmp 6) (.tmp 31) rfl _ _ _ rfl rfl hst ?_
  obtain ⟨g6, hg6⟩ : ∃ g, g = w4.heap.size := ⟨_, rfl⟩
  have hlow6 : w.heap.size ≤ g6 := by rw [hg6]; exact hk4.size
  rw [← hg6] at hG6 hXG ⊢
  generalize (w4.alloc (.cells #[.int .i64 0, .int .i64 0, .int .i64 0, .bool false] 53)).setRow g6 #[.int .i64 lo, .int .i64 0, .int .i64 (-1), .bool false] = w5 at *
  dsimp only [Act.put]
  have HPR : Hid (b = ((pre ++ uintB lo) ++ uintB hi) ++ (ops.flatMap opB ++ 0 :: rest)) := Lib.hid (by rw [HBY.out]; simp only [List.append_assoc])
  have hTS : TS w gr g2 g4 g6 (.slice (some ⟨bb, oo, none⟩) b.length c) ((((pre ++ uintB lo) ++ uintB hi).length : Nat) : Int) lo hi (.slice none 0 0) [] (row0 lo) w5 :=
    ⟨hXG.heap hb4, hXG.heap hG24, hXG.heap hG44, hG6, OwnR.nil _, (by intro e; cases e), hk4.trans (Kept.of_ext hXG hk4.size), hlow.2.2, ⟨hlow.1, hlow.2.1, hlow6⟩⟩
  obtain ⟨R, hRR⟩ : ∃ R, R = rowsOf (row0 lo) ops := ⟨_, rfl⟩
  have HR0 : Hid ([] ++ rowsOf (row0 lo) ops = R) := Lib.hid (by rw [hRR]; rfl)
  have HRR := Lib.hid hRR
  have hRl : R.length ≤ 8000 := by rw [hRR]; exact HR.out
  obtain ⟨pe, hpe⟩ : ∃ pe : List UInt8, pe = ((pre ++ uintB lo) ++ uintB hi) ++ (ops.flatMap opB ++ [0]) := ⟨_, rfl⟩
  have HPE := Lib.hid hpe
  have HPE0 : Hid (pe = ((pre ++ uintB lo) ++ uintB hi) ++ (ops.flatMap opB ++ [0])) := Lib.hid hpe
  clear hst hG6 hXG hg6 hb4 hG24 hG44 hk4 p0 p1 p2 n2r n4r hRR hpe
  go_loopg [7] ops.length (fun gk op wr => ∃ (os : List LOp) (pr : List UInt8) (s : LRow) (rows : List LRow) (y : Value), gk = os.length ∧ Hid (b = pr ++ (os.flatMap opB ++ 0 :: rest)) ∧ Hid (pe = pr ++ (os.flatMap opB ++ [0])) ∧ Hid (okOps s os) ∧ Hid (rows ++ rowsOf s os = R) ∧ TS w gr g2 g4 g6 (.slice (some ⟨bb, oo, none⟩) b.length c) (pr.length : Int) lo hi y rows s wr)
  case atStart => exact ⟨ops, _, row0 lo, [], _, rfl, HPR, HPE0, HOK, HR0, hTS⟩
  case round =>
    clear hTS HPR HPE0 HR0
    obtain ⟨os, pr, s, rows, y, hgk, HB, HP, HO, HE, hT⟩ := hrel
    obtain ⟨wz, rfl⟩ : ∃ wz : World, wz = wr := ⟨_, rfl⟩
    obtain ⟨c0, rst, hc0⟩ : ∃ c0 rst, os.flatMap opB ++ 0 :: rest = c0 :: rst := by
      cases h : os.flatMap opB ++ 0 :: rest with
      | nil => simp at h
      | cons a l => exact ⟨a, l, rfl⟩
    have hbs := HB.out
    rw [hc0] at hbs
    have hget : b[pr.length]? = some c0 := by rw [hbs]; simp
    have hplt : pr.length < b.length := (List.getElem?_eq_some_iff.1 hget).1
    have hcell := HBC.out wz hT.kept _ _ hget
    obtain ⟨N, hN⟩ : ∃ N : Int, N = (c0.toNat : Int) := ⟨_, rfl⟩
    have hN255 : 0 ≤ N ∧ N ≤ 255 := by have := c0.toNat_lt; omega
    rw [← hN] at hcell
    obtain ⟨pr1, hpr1⟩ : ∃ p, p = pr ++ [c0] := ⟨_, rfl⟩
    have hw1 : IntKind.i64.wrap ((pr.length : Int) + 1) = (pr1.length : Int) := by rw [hpr1, IntKind.wrap_i64, List.length_append]; simp only [List.length_cons, List.length_nil]; omega
    have d1 : decide ((b.length : Int) ≤ (pr.length : Int)) = false := by simp; omega
    have hpi : (pr.length : Int) < (b.length : Int) := by omega
    have HC0 := Lib.hid hc0
    have HNN := Lib.hid hN
    have HP1 := Lib.hid hpr1
    clear hbs hget hN hpr1 hc0
    obtain ⟨q0, q1⟩ : wz.cell? ⟨gr, 0, none⟩ = some (.slice (some ⟨bb, oo, none⟩) b.length c) ∧ wz.cell? ⟨gr, 1, none⟩ = some (.int .i64 (pr.length : Int)) := ⟨blk_at hT.rd 0 _ rfl, blk_at hT.rd 1 _ rfl⟩
    go_upto_region 10 with fail
    go_quiet (fail)
    have hTa := hT.ext ((Ext.refl wz).drewN nq)
    have hcella := ((Ext.refl wz).drewN nq).cell hcell
    clear hT hcell q0 q1
    generalize wz.drewN nq = wa at *
    obtain ⟨q0, q1⟩ : wa.cell? ⟨gr, 0, none⟩ = some (.slice (some ⟨bb, oo, none⟩) b.length c) ∧ wa.cell? ⟨gr, 1, none⟩ = some (.int .i64 (pr.length : Int)) := ⟨blk_at hTa.rd 0 _ rfl, blk_at hTa.rd 1 _ rfl⟩
    go_upto_region 12 with fail
    go_quiet (fail)
    have hTb := hTa.ext ((Ext.refl wa).drewN nq)
    clear hTa hcella q0 q1
    generalize wa.drewN nq = wb at *
    have q1 := blk_at hTb.rd 1 _ rfl
    have f1 := blk_free hTb.rd 1
    have hltr := heap_lt hTb.rd
    go_upto_region 17 with fail
    have hT := hTb.at_ (pr1.length : Int)
    clear hTb q1 f1 hltr hw1 hpi d1
    generalize wb.setCell ⟨gr, 1, none⟩ (.int .i64 (pr1.length : Int)) = wc at *
    cases os with
    | nil =>
      have hN0 : N = 0 := by
        have h1 := HC0.out
        simp only [List.flatMap_nil, List.nil_append, List.cons.injEq] at h1
        rw [HNN.out, ← h1.1]; rfl
      subst hN0
      have HE0 : Hid (rows = R) := Lib.hid (by have := HE.out; simpa [rowsOf] using this)
      have HP0 : Hid (pe = pr1) := Lib.hid (by
        have h1 := HC0.out
        simp only [List.flatMap_nil, List.nil_append, List.cons.injEq] at h1
        rw [HP.out, HP1.out, ← h1.1]; rfl)
      clear HB HP HO HE HC0 HNN HP1
      obtain ⟨Y, cy, hy, _, _⟩ := hT.own.inR
      obtain ⟨n5, hn5⟩ : ∃ n5, n5 = rows.length := ⟨_, rfl⟩
      rw [← hn5] at hy
      subst hy
      clear hn5
      have hldt := run_loadAt_blk (P := Try.prog) wc g4 46 46 _ (0, 0) _ hT.tab Try.underlying46 rfl lt_size
      have hstt := run_storeAt_blk (P := Try.prog) wc g2 46 46 _ #[.int .i64 lo, .int .i64 hi, .slice Y n5 cy] hT.res lt_size rfl (by simp [Value.oneCell'])
      go_wp2_with first | refine wpList_load_run rfl 46 (.tmp 4) rfl _ _ rfl hldt ?_ | refine wpList_store_run rfl 46 (.tmp 2) (.tmp 80) rfl _ _ _ rfl rfl hstt ?_
      have hZ9 := setRow_heap wc g2 _ #[.int .i64 lo, .int .i64 hi, .slice Y n5 cy] _ _ hT.res
      have gs9 := gsetRow wc g2 #[.int .i64 lo, .int .i64 hi, .slice Y n5 cy]
      have hrd9 := blk_grown hT.rd gs9 (fun e => ne_of_types hT.rd hT.res (by decide) (by cases e; rfl))
      have hown9 := hT.own.kept gs9 (.inr (hT.own.ne_blk hT.res (by decide)))
      have hk9 := hT.kept.trans (Kept.of_grown gs9 hT.kept.size (fun k e => by cases e; exact .inl hT.low.1))
      clear hldt hstt gs9 hT
      generalize wc.setRow g2 #[.int .i64 lo, .int .i64 hi, .slice Y n5 cy] = w9 at *
      obtain ⟨k0, k1, k2⟩ := blkT hZ9
      refine bodyPost_ret (v := .tuple #[.agg #[.int .i64 lo, .int .i64 hi, .slice Y n5 cy], .int .i64 0]) (by simp [results, Try.results63, go_sem, k0, k1, k2]) rfl ?_
      refine ⟨_, rfl, ?_, ?_, hk9⟩
      · rw [← HRR.out, ← HE0.out]; exact hown9
      · have e : pre ++ (uintB lo ++ (uintB hi ++ (ops.flatMap opB ++ [0]))) = pr1 := by rw [← HP0.out, HPE.out]; simp only [List.append_assoc]
        rw [e]; exact hrd9
    | cons o os' =>
      have hok3 : Bd s ∧ okOp o ∧ okOps (nextS s o) os' := HO.out
      obtain ⟨hbd, hoo, hon⟩ := hok3
      have HOn := Lib.hid hon
      clear hon HO
      unfold Bd at hbd
      have HBs : Hid (b = pr ++ (opB o ++ (os'.flatMap opB ++ 0 :: rest))) := Lib.hid (by rw [HB.out]; simp [List.append_assoc])
      have HPs : Hid (pe = pr ++ (opB o ++ (os'.flatMap opB ++ [0]))) := Lib.hid (by rw [HP.out]; simp [List.append_assoc])
      have HEs : Hid ((rows ++ emit s o) ++ rowsOf (nextS s o) os' = R) := Lib.hid (by rw [← HE.out, List.append_assoc]; rfl)
      have HC1 : Hid ((opB o)[0]? = some c0) := Lib.hid (by
        have h1 := HC0.out
        cases o <;> simp [opB] at h1 ⊢ <;> exact h1.1)
      clear HB HP HE HC0
      cases o with
      | up v =>
        have hc1 : c0 = 1 := by have := HC1.out; simpa [opB] using this.symm
        have hN0 : N = 1 := by rw [HNN.out, hc1]; rfl
        subst hN0
        have HBn : Hid (b = (pr1 ++ uintB v) ++ (os'.flatMap opB ++ 0 :: rest)) := Lib.hid (by rw [HBs.out, HP1.out, hc1]; simp [opB])
        have HPn : Hid (pe = (pr1 ++ uintB v) ++ (os'.flatMap opB ++ [0])) := Lib.hid (by rw [HPs.out, HP1.out, hc1]; simp [opB])
        have HEn : Hid (rows ++ rowsOf (nextS s (.up v)) os' = R) := Lib.hid (by have := HEs.out; simpa [emit] using this)
        clear HBs HPs HEs HC1 HNN hc1
        go_wp2_with fail
        refine (chA_any gr g6 _ b _ v _ s wc (HX.out wc hT.kept) hT.rd hT.st (uintR_at hoo.1 (by have := hoo.2; omega) (by rw [HBn.out, List.append_assoc])) hl hoo hbd.1).mono ?_
        rintro en w6 hpost
        have hTc := hT.change hpost
        obtain ⟨rfl, _⟩ := hpost
        clear hT
        go_wp2_with fail
        go_roundg os'.length
        case measure => rw [hgk]; simp
        case rel => exact ⟨os', pr1 ++ uintB v, nextS s (.up v), rows, y, rfl, HBn, HPn, HOn, HEn, hTc⟩
      | ctx v =>
        have hc1 : c0 = 2 := by have := HC1.out; simpa [opB] using this.symm
        have hN0 : N = 2 := by rw [HNN.out, hc1]; rfl
        subst hN0
        have HBn : Hid (b = (pr1 ++ uintB v) ++ (os'.flatMap opB ++ 0 :: rest)) := Lib.hid (by rw [HBs.out, HP1.out, hc1]; simp [opB])
        have HPn : Hid (pe = (pr1 ++ uintB v) ++ (os'.flatMap opB ++ [0])) := Lib.hid (by rw [HPs.out, HP1.out, hc1]; simp [opB])
        have HEn : Hid (rows ++ rowsOf (nextS s (.ctx v)) os' = R) := Lib.hid (by have := HEs.out; simpa [emit] using this)
        clear HBs HPs HEs HC1 HNN hc1
        go_wp2_with fail
        refine (chC_any gr g6 _ b _ v _ s wc (HX.out wc hT.kept) hT.rd hT.st (uintR_at hoo.1 (by have := hoo.2; omega) (by rw [HBn.out, List.append_assoc])) hl hoo).mono ?_
        rintro en w6 hpost
        have hTc := hT.change hpost
        obtain ⟨rfl, _⟩ := hpost
        clear hT
        go_wp2_with fail
        go_roundg os'.length
        case measure => rw [hgk]; simp
        case rel => exact ⟨os', pr1 ++ uintB v, nextS s (.ctx v), rows, y, rfl, HBn, HPn, HOn, HEn, hTc⟩
      | more v =>
        have hc1 : c0 = 3 := by have := HC1.out; simpa [opB] using this.symm
        have hN0 : N = 3 := by rw [HNN.out, hc1]; rfl
        subst hN0
        have HBn : Hid (b = (pr1 ++ leb (zig v)) ++ (os'.flatMap opB ++ 0 :: rest)) := Lib.hid (by rw [HBs.out, HP1.out, hc1]; simp [opB])
        have HPn : Hid (pe = (pr1 ++ leb (zig v)) ++ (os'.flatMap opB ++ [0])) := Lib.hid (by rw [HPs.out, HP1.out, hc1]; simp [opB])
        have HEn : Hid (rows ++ rowsOf (nextS s (.more v)) os' = R) := Lib.hid (by have := HEs.out; simpa [emit] using this)
        have hoo' : -100000 ≤ v ∧ v ≤ 100000 := hoo
        clear HBs HPs HEs HC1 HNN hc1
        go_wp2_with fail
        refine (chS_any gr g6 _ b _ v _ s wc (HX.out wc hT.kept) hT.rd hT.st (intR_at (by omega) (by omega) (by rw [HBn.out, List.append_assoc])) hl hoo' hbd.2).mono ?_
        rintro en w6 hpost
        have hTc := hT.change hpost
        obtain ⟨rfl, _⟩ := hpost
        clear hT
        go_wp2_with fail
        go_roundg os'.length
        case measure => rw [hgk]; simp
        case rel => exact ⟨os', pr1 ++ leb (zig v), nextS s (.more v), rows, y, rfl, HBn, HPn, HOn, HEn, hTc⟩
      | row =>
        have hc1 : c0 = 4 := by have := HC1.out; simpa [opB] using this.symm
        have hN0 : N = 4 := by rw [HNN.out, hc1]; rfl
        subst hN0
        have HBn : Hid (b = pr1 ++ (os'.flatMap opB ++ 0 :: rest)) := Lib.hid (by rw [HBs.out, HP1.out, hc1]; simp [opB])
        have HPn : Hid (pe = pr1 ++ (os'.flatMap opB ++ [0])) := Lib.hid (by rw [HPs.out, HP1.out, hc1]; simp [opB])
        clear HBs HPs HC1 HNN hc1
        have f3 := blk_free hT.st 3
        have q3 := blk_at hT.st 3 _ rfl
        have hlt3 := heap_lt hT.st
        go_upto_region 27 with fail
        have hTd := hT.state (s' := nextS s .row) 3 (.bool false) rfl
        clear hT f3 q3 hlt3
        generalize wc.setCell ⟨g6, 3, none⟩ (.bool false) = wd at *
        obtain ⟨sn, hsn⟩ : ∃ sn, sn = nextS s .row := ⟨_, rfl⟩
        have hem : emit s .row = [sn] := by rw [hsn]; rfl
        have HEM := Lib.hid hem
        rw [← hsn] at hTd
        have HSN := Lib.hid hsn
        clear hsn hem
        have HEn : Hid ((rows ++ [sn]) ++ rowsOf sn os' = R) := Lib.hid (by have h1 := HEs.out; rw [HEM.out, ← HSN.out] at h1; exact h1)
        have HOn2 : Hid (okOps sn os') := Lib.hid (by have h1 := HOn.out; rw [← HSN.out] at h1; exact h1)
        have hrl : rows.length < 8000 := by
          have h1 := congrArg List.length HEn.out
          simp only [List.length_append, List.length_cons, List.length_nil] at h1
          omega
        obtain ⟨Y, cy, hy, _, _⟩ := hTd.own.inR
        obtain ⟨n5, hn5⟩ : ∃ n5, n5 = rows.length := ⟨_, rfl⟩
        have hn5l : n5 < 8000 := by omega
        rw [← hn5] at hy
        subst hy
        have HN5 := Lib.hid hn5
        clear hn5 HEs HSN HEM HOn hrl
        obtain ⟨p0, p1, p2⟩ := blkT hTd.tab
        have dn : ((n5 : Int) == 8000) = false := by rw [beq_eq_false_iff_ne]; omega
        have hldr := run_loadAt_blk (P := Try.prog) wd g6 53 53 _ (0, 0) _ hTd.st Try.underlying53 rfl rw_size
        have hA5 := (Ext.refl wd).alloc (.cells #[.int .i64 sn.addr, .int .i64 sn.ctx, .int .i64 sn.stmt, .bool sn.mark] 53)
        have hin5 : InR lrowCells (wd.alloc (.cells #[.int .i64 sn.addr, .int .i64 sn.ctx, .int .i64 sn.stmt, .bool sn.mark] 53)) (.slice (some ⟨wd.heap.size, 0, none⟩) 1 1) [sn] := (OwnR_one (f := lrowCells) wd sn rfl 53).inR
        have hsz5 := Nat.le_trans hTd.kept.size hA5.size
        go_wp2_with first | refine wpList_load_run rfl 53 (.tmp 6) rfl _ _ rfl hldr ?_ | refine wpList_rowOne elem_rw rfl (.tmp 108) rfl #[.int .i64 sn.addr, .int .i64 sn.ctx, .int .i64 sn.stmt, .bool sn.mark] rfl rfl (by omega) ?_ | (at_builtin; go_must (refine wpList_appendR elem_rw rfl (.tmp 107) (.tmp 109) rfl w.heap.size _ rows rfl (hTd.own.ext hA5) _ [sn] rfl hin5 (fun _ _ => rfl) (fun a _ u hu => by simp only [lrowCells, List.mem_cons, List.not_mem_nil, or_false] at hu; rcases hu with rfl | rfl | rfl | rfl <;> rfl) (by have := HN5.out; simp only [List.length_cons, List.length_nil]; omega) (by omega) hsz5 (Hold.out ?_)))
        refine Hold.mk fun v9 w9 ho9 hg9 => ?_
        obtain ⟨hTe, hr4⟩ := (hTd.ext hA5).push ho9 hg9
        obtain ⟨V9, d9, hv9, _, _⟩ := ho9.inR
        obtain ⟨n9, hn9⟩ : ∃ n9, n9 = (rows ++ [sn]).length := ⟨_, rfl⟩
        rw [← hn9] at hv9
        subst hv9
        clear hn9
        have f9 := blk_free hr4 2
        have q9 := blk_at hr4 2 _ rfl
        have hlt9 := heap_lt hr4
        clear hTd hldr hA5 hin5 hsz5 ho9 hg9 hr4 p0 p1 p2
        go_wp2_with fail
        go_roundg os'.length
        case measure => rw [hgk]; simp
        case rel => exact ⟨os', pr1, sn, rows ++ [sn], _, rfl, HBn, HPn, HOn2, HEn, hTe⟩
      | mark =>
        have hc1 : c0 = 5 := by have := HC1.out; simpa [opB] using this.symm
        have hN0 : N = 5 := by rw [HNN.out, hc1]; rfl
        subst hN0
        have HBn : Hid (b = pr1 ++ (os'.flatMap opB ++ 0 :: rest)) := Lib.hid (by rw [HBs.out, HP1.out, hc1]; simp [opB])
        have HPn : Hid (pe = pr1 ++ (os'.flatMap opB ++ [0])) := Lib.hid (by rw [HPs.out, HP1.out, hc1]; simp [opB])
        clear HBs HPs HC1 HNN hc1
        have f3 := blk_free hT.st 3
        have q3 := blk_at hT.st 3 _ rfl
        have hlt3 := heap_lt hT.st
        go_upto_region 27 with fail
        have hTd := hT.state (s' := nextS s .mark) 3 (.bool true) rfl
        clear hT f3 q3 hlt3
        generalize wc.setCell ⟨g6, 3, none⟩ (.bool true) = wd at *
        obtain ⟨sn, hsn⟩ : ∃ sn, sn = nextS s .mark := ⟨_, rfl⟩
        have hem : emit s .mark = [sn] := by rw [hsn]; rfl
        have HEM := Lib.hid hem
        rw [← hsn] at hTd
        have HSN := Lib.hid hsn
        clear hsn hem
        have HEn : Hid ((rows ++ [sn]) ++ rowsOf sn os' = R) := Lib.hid (by have h1 := HEs.out; rw [HEM.out, ← HSN.out] at h1; exact h1)
        have HOn2 : Hid (okOps sn os') := Lib.hid (by have h1 := HOn.out; rw [← HSN.out] at h1; exact h1)
        have hrl : rows.length < 8000 := by
          have h1 := congrArg List.length HEn.out
          simp only [List.length_append, List.length_cons, List.length_nil] at h1
          omega
        obtain ⟨Y, cy, hy, _, _⟩ := hTd.own.inR
        obtain ⟨n5, hn5⟩ : ∃ n5, n5 = rows.length := ⟨_, rfl⟩
        have hn5l : n5 < 8000 := by omega
        rw [← hn5] at hy
        subst hy
        have HN5 := Lib.hid hn5
        clear hn5 HEs HSN HEM HOn hrl
        obtain ⟨p0, p1, p2⟩ := blkT hTd.tab
        have dn : ((n5 : Int) == 8000) = false := by rw [beq_eq_false_iff_ne]; omega
        have hldr := run_loadAt_blk (P := Try.prog) wd g6 53 53 _ (0, 0) _ hTd.st Try.underlying53 rfl rw_size
        have hA5 := (Ext.refl wd).alloc (.cells #[.int .i64 sn.addr, .int .i64 sn.ctx, .int .i64 sn.stmt, .bool sn.mark] 53)
        have hin5 : InR lrowCells (wd.alloc (.cells #[.int .i64 sn.addr, .int .i64 sn.ctx, .int .i64 sn.stmt, .bool sn.mark] 53)) (.slice (some ⟨wd.heap.size, 0, none⟩) 1 1) [sn] := (OwnR_one (f := lrowCells) wd sn rfl 53).inR
        have hsz5 := Nat.le_trans hTd.kept.size hA5.size
        go_wp2_with first | refine wpList_load_run rfl 53 (.tmp 6) rfl _ _ rfl hldr ?_ | refine wpList_rowOne elem_rw rfl (.tmp 108) rfl #[.int .i64 sn.addr, .int .i64 sn.ctx, .int .i64 sn.stmt, .bool sn.mark] rfl rfl (by omega) ?_ | (at_builtin; go_must (refine wpList_appendR elem_rw rfl (.tmp 107) (.tmp 109) rfl w.heap.size _ rows rfl (hTd.own.ext hA5) _ [sn] rfl hin5 (fun _ _ => rfl) (fun a _ u hu => by simp only [lrowCells, List.mem_cons, List.not_mem_nil, or_false] at hu; rcases hu with rfl | rfl | rfl | rfl <;> rfl) (by have := HN5.out; simp only [List.length_cons, List.length_nil]; omega) (by omega) hsz5 (Hold.out ?_)))
        refine Hold.mk fun v9 w9 ho9 hg9 => ?_
        obtain ⟨hTe, hr4⟩ := (hTd.ext hA5).push ho9 hg9
        obtain ⟨V9, d9, hv9, _, _⟩ := ho9.inR
        obtain ⟨n9, hn9⟩ : ∃ n9, n9 = (rows ++ [sn]).length := ⟨_, rfl⟩
        rw [← hn9] at hv9
        subst hv9
        clear hn9
        have f9 := blk_free hr4 2
        have q9 := blk_at hr4 2 _ rfl
        have hlt9 := heap_lt hr4
        clear hTd hldr hA5 hin5 hsz5 ho9 hg9 hr4 p0 p1 p2
        go_wp2_with fail
        go_roundg os'.length
        case measure => rw [hgk]; simp
        case rel => exact ⟨os', pr1, sn, rows ++ [sn], _, rfl, HBn, HPn, HOn2, HEn, hTe⟩
      | short u m =>
        have hsu : 0 ≤ u ∧ u ≤ 29 ∧ -2 ≤ m ∧ m ≤ 5 := hoo
        have hc1 : c0 = oneB u m := by have := HC1.out; simpa [opB] using this.symm
        have hN0 : N = 16 + u * 8 + m + 2 := by
          rw [HNN.out, hc1]
          show ((UInt8.ofNat (16 + u * 8 + m + 2).toNat).toNat : Int) = _
          simp; omega
        have HBn : Hid (b = pr1 ++ (os'.flatMap opB ++ 0 :: rest)) := Lib.hid (by rw [HBs.out, HP1.out, hc1]; simp [opB])
        have HPn : Hid (pe = pr1 ++ (os'.flatMap opB ++ [0])) := Lib.hid (by rw [HPs.out, HP1.out, hc1]; simp [opB])
        clear HBs HPs HC1 HNN hc1
        have d0 : (N == 0) = false := by rw [beq_eq_false_iff_ne]; omega
        have d3 : decide (N ≤ 3) = false := by simp; omega
        have d5 : decide (N ≤ 5) = false := by simp; omega
        have d6 : decide (N < 16) = false := by simp; omega
        obtain ⟨Q, hQ⟩ : ∃ Q, Q = N - 16 := ⟨_, rfl⟩
        have v1 : IntKind.i64.wrap (N - 16) = Q := by rw [IntKind.wrap_i64]; omega
        have v2 : Q.tdiv 8 = u := by rw [Int.tdiv_eq_ediv_of_nonneg (by omega)]; omega
        obtain ⟨M2, hM2⟩ : ∃ M2, M2 = m + 2 := ⟨_, rfl⟩
        have v3 : Q.tmod 8 = M2 := by rw [Int.tmod_eq_emod_of_nonneg (by omega)]; omega
        have v4 : IntKind.i64.wrap (M2 - 2) = m := by rw [IntKind.wrap_i64]; omega
        have v5 : IntKind.i64.wrap (s.addr + u) = s.addr + u := by rw [IntKind.wrap_i64]; omega
        have v6 : IntKind.i64.wrap (s.stmt + m) = s.stmt + m := by rw [IntKind.wrap_i64]; omega
        have v7 : IntKind.i64.wrap u = u := by rw [IntKind.wrap_i64]; omega
        clear hN0 hQ hM2
        have f0 := blk_free hT.st 0
        have q0 := blk_at hT.st 0 _ rfl
        have hlt0 := heap_lt hT.st
        go_upto_region 15 with fail
        have hTa := hT.state (s' := ⟨s.addr + u, s.ctx, s.stmt, s.mark⟩) 0 (.int .i64 (s.addr + u)) rfl
        clear hT f0 q0 hlt0
        generalize wc.setCell ⟨g6, 0, none⟩ (.int .i64 (s.addr + u)) = wa2 at *
        have f2 := blk_free hTa.st 2
        have q2 : wa2.cell? ⟨g6, 2, none⟩ = some (.int .i64 s.stmt) := blk_at hTa.st 2 _ rfl
        have hlt2 := heap_lt hTa.st
        go_upto_region 16 with fail
        have hTb := hTa.state (s' := ⟨s.addr + u, s.ctx, s.stmt + m, s.mark⟩) 2 (.int .i64 (s.stmt + m)) rfl
        clear hTa f2 q2 hlt2
        generalize wa2.setCell ⟨g6, 2, none⟩ (.int .i64 (s.stmt + m)) = wb2 at *
        have f3 := blk_free hTb.st 3
        have q3 : wb2.cell? ⟨g6, 3, none⟩ = some (.bool s.mark) := blk_at hTb.st 3 _ rfl
        have hlt3 := heap_lt hTb.st
        go_upto_region 27 with fail
        have hTd := hTb.state (s' := nextS s (.short u m)) 3 (.bool true) rfl
        clear hTb f3 q3 hlt3
        generalize wb2.setCell ⟨g6, 3, none⟩ (.bool true) = wd at *
        obtain ⟨sn, hsn⟩ : ∃ sn, sn = nextS s (.short u m) := ⟨_, rfl⟩
        have hem : emit s (.short u m) = [sn] := by rw [hsn]; rfl
        have HEM := Lib.hid hem
        rw [← hsn] at hTd
        have HSN := Lib.hid hsn
        clear hsn hem v1 v2 v3 v4 v5 v6 v7 d0 d3 d5 d6
        have HEn : Hid ((rows ++ [sn]) ++ rowsOf sn os' = R) := Lib.hid (by have h1 := HEs.out; rw [HEM.out, ← HSN.out] at h1; exact h1)
        have HOn2 : Hid (okOps sn os') := Lib.hid (by have h1 := HOn.out; rw [← HSN.out] at h1; exact h1)
        have hrl : rows.length < 8000 := by
          have h1 := congrArg List.length HEn.out
          simp only [List.length_append, List.length_cons, List.length_nil] at h1
          omega
        obtain ⟨Y, cy, hy, _, _⟩ := hTd.own.inR
        obtain ⟨n5, hn5⟩ : ∃ n5, n5 = rows.length := ⟨_, rfl⟩
        have hn5l : n5 < 8000 := by omega
        rw [← hn5] at hy
        subst hy
        have HN5 := Lib.hid hn5
        clear hn5 HEs HSN HEM HOn hrl
        obtain ⟨p0, p1, p2⟩ := blkT hTd.tab
        have dn : ((n5 : Int) == 8000) = false := by rw [beq_eq_false_iff_ne]; omega
        have hldr := run_loadAt_blk (P := Try.prog) wd g6 53 53 _ (0, 0) _ hTd.st Try.underlying53 rfl rw_size
        have hA5 := (Ext.refl wd).alloc (.cells #[.int .i64 sn.addr, .int .i64 sn.ctx, .int .i64 sn.stmt, .bool sn.mark] 53)
        have hin5 : InR lrowCells (wd.alloc (.cells #[.int .i64 sn.addr, .int .i64 sn.ctx, .int .i64 sn.stmt, .bool sn.mark] 53)) (.slice (some ⟨wd.heap.size, 0, none⟩) 1 1) [sn] := (OwnR_one (f := lrowCells) wd sn rfl 53).inR
        have hsz5 := Nat.le_trans hTd.kept.size hA5.size
        go_wp2_with first | refine wpList_load_run rfl 53 (.tmp 6) rfl _ _ rfl hldr ?_ | refine wpList_rowOne elem_rw rfl (.tmp 108) rfl #[.int .i64 sn.addr, .int .i64 sn.ctx, .int .i64 sn.stmt, .bool sn.mark] rfl rfl (by omega) ?_ | (at_builtin; go_must (refine wpList_appendR elem_rw rfl (.tmp 107) (.tmp 109) rfl w.heap.size _ rows rfl (hTd.own.ext hA5) _ [sn] rfl hin5 (fun _ _ => rfl) (fun a _ u hu => by simp only [lrowCells, List.mem_cons, List.not_mem_nil, or_false] at hu; rcases hu with rfl | rfl | rfl | rfl <;> rfl) (by have := HN5.out; simp only [List.length_cons, List.length_nil]; omega) (by omega) hsz5 (Hold.out ?_)))
        refine Hold.mk fun v9 w9 ho9 hg9 => ?_
        obtain ⟨hTe, hr4⟩ := (hTd.ext hA5).push ho9 hg9
        obtain ⟨V9, d9, hv9, _, _⟩ := ho9.inR
        obtain ⟨n9, hn9⟩ : ∃ n9, n9 = (rows ++ [sn]).length := ⟨_, rfl⟩
        rw [← hn9] at hv9
        subst hv9
        clear hn9
        have f9 := blk_free hr4 2
        have q9 := blk_at hr4 2 _ rfl
        have hlt9 := heap_lt hr4
        clear hTd hldr hA5 hin5 hsz5 ho9 hg9 hr4 p0 p1 p2
        go_wp2_with fail
        go_roundg os'.length
        case measure => rw [hgk]; simp
        case rel => exact ⟨os', pr1, sn, rows ++ [sn], _, rfl, HBn, HPn, HOn2, HEn, hTe⟩
