/- What the specification encodes a range to: the walk of ref.one. -/
import Derived.Test.YtokmbdeafjmcjaaLcG
import Derived.Test.YtokmbdeafjmcjaaWireR
import Derived.Test.YtokmbdeafjmcjaaLcR
namespace Go.Proofs.Ytokmbdeafjmcjaa
open Go.RowKit
set_option linter.unusedVariables false
set_option linter.unusedSimpArgs false

theorem pnB_one {p : Plc} (h : p.kind = 1) : pnB p = [] := by unfold pnB; rw [if_pos h]
theorem pnB_num {p : Plc} (h : ¬ p.kind = 1) : pnB p = uintB p.n := by unfold pnB; rw [if_neg h]
theorem paB_no {p : Plc} (h : p.add = 0) : paB p = [] := by unfold paB; rw [if_pos h]
theorem paB_yes {p : Plc} (h : ¬ p.add = 0) : paB p = leb (zig p.add) := by unfold paB; rw [if_neg h]
set_option maxHeartbeats 40000000 in
set_option maxRecDepth 100000 in
theorem refOne19_any (r : Rng) (was : Int) (y : Value) (w : World) (hy : InR plcCells w y r.places) (hw : 0 ≤ was ∧ was ≤ r.lo ∧ r.lo < r.hi ∧ r.hi ≤ 1048576) (hn : (0 ≤ r.ctx ∧ r.ctx ≤ 255) ∧ (0 ≤ r.var ∧ r.var < 24) ∧ 0 ≤ r.piece ∧ r.piece < 4)
    (hp : okPl r) (ha : ∀ p ∈ r.places, I64 p.add) : Calls Try.prog 73 #[.agg #[.int .i64 r.ctx, .int .i64 r.var, .int .i64 r.piece, .int .i64 r.lo, .int .i64 r.hi, y], .int .i64 was] w (EncPost (encRng was r) w) := by
  obtain ⟨A5, c5, rfl, _, _⟩ := id hy
  obtain ⟨n5, hn5⟩ : ∃ n, n = r.places.length := ⟨_, rfl⟩
  have hn40 : n5 ≤ 40 := by rw [hn5]; exact hp.2.1
  rw [← hn5] at hy ⊢
  have HY := Lib.hid hy
  have HN5 := Lib.hid hn5
  have HPL := Lib.hid hp.2.2
  have HAD := Lib.hid ha
  clear hy hn5 hp ha
  go_enter Try.func73, Try.ntmps73
  go_upto_region 1 with fail
  obtain ⟨W, hW, hE, hB⟩ : ∃ W, W = w.alloc (.cells #[.int .i64 r.ctx, .int .i64 r.var, .int .i64 r.piece, .int .i64 r.lo, .int .i64 r.hi, .slice A5 n5 c5] 69) ∧ Ext w W ∧ W.heap[w.heap.size]? = some (.cells #[.int .i64 r.ctx, .int .i64 r.var, .int .i64 r.piece, .int .i64 r.lo, .int .i64 r.hi, .slice A5 n5 c5] 69 (0, 0)) := ⟨_, rfl, (Ext.refl w).alloc _, heap_alloc_new w _⟩
  rw [← hW]
  clear hW
  obtain ⟨g2, hg2⟩ : ∃ g, g = w.heap.size := ⟨_, rfl⟩
  rw [← hg2] at hB ⊢
  clear hg2
  obtain ⟨q0, q1, q2, q3, q4, q5⟩ := blk6 hB
  obtain ⟨d1, hd1, hd1e⟩ : ∃ d, IntKind.i64.wrap (r.lo - was) = d ∧ d = r.lo - was := ⟨r.lo - was, wrap_in19 (by omega), rfl⟩
  obtain ⟨d2, hd2, hd2e⟩ : ∃ d, IntKind.i64.wrap (r.hi - r.lo) = d ∧ d = r.hi - r.lo := ⟨r.hi - r.lo, wrap_in19 (by omega), rfl⟩
  obtain ⟨vs, hvs⟩ : ∃ v : List Int, v = [d1, d2, r.ctx, r.var, r.piece, (n5 : Int)] := ⟨_, rfl⟩
  have hA := (Ext.refl W).alloc (.cells #[.int .i64 d1, .int .i64 d2, .int .i64 r.ctx, .int .i64 r.var, .int .i64 r.piece, .int .i64 (n5 : Int)] 3)
  have hin : InI (W.alloc (.cells #[.int .i64 d1, .int .i64 d2, .int .i64 r.ctx, .int .i64 r.var, .int .i64 r.piece, .int .i64 (n5 : Int)] 3)) (.slice (some ⟨W.heap.size, 0, none⟩) 6 6) vs := by rw [hvs]; exact ⟨_, 6, rfl, Nat.le_refl _, Rd_blk (heap_alloc_new W (.cells #[.int .i64 d1, .int .i64 d2, .int .i64 r.ctx, .int .i64 r.var, .int .i64 r.piece, .int .i64 (n5 : Int)] 3))⟩
  have HVL : Hid (vs.length = 6) := Lib.hid (by rw [hvs]; rfl)
  have HVB : Hid (∀ v ∈ vs, 0 ≤ v ∧ v ≤ 1048576) := Lib.hid (by rw [hvs]; simp only [List.mem_cons, List.not_mem_nil, or_false, forall_eq_or_imp, forall_eq]; omega)
  have HENC : Hid (encRng was r = numB vs ++ r.places.flatMap encPl) := Lib.hid (by unfold encRng; rw [hvs, hd1e, hd2e, HN5.out])
  clear hvs hd1e hd2e
  go_wp2_with fail
  have hE2 := hE.trans hA
  have hB2 := hA.heap hB
  have hW2 := hE2.size
  clear q0 q1 q2 q3 q4 q5 hA hB hE hd1 hd2
  generalize hW2e : W.alloc (.cells #[.int .i64 d1, .int .i64 d2, .int .i64 r.ctx, .int .i64 r.var, .int .i64 r.piece, .int .i64 (n5 : Int)] 3) = W2 at *
  clear hW2e
  generalize W.heap.size = gv at *
  obtain ⟨AI, cI, hI, _, hrdI⟩ := hin
  have HRD : Hid (Rd W2 (some ⟨gv, 0, none⟩) (vs.map iv)) := Lib.hid (by injection hI with hI1 hI2 hI3; rw [hI1]; exact hrdI)
  clear hI
  clear hrdI
  go_loopw [5, 31] (fun v i wr => ∃ (j : Nat) (cur : List UInt8), j ≤ 6 ∧ i = .int .i64 (j : Int) ∧ Hid (cur = numB (vs.take j)) ∧ cur.length ≤ 10 * j ∧ OwnV bv 5 W2.heap.size wr v cur ∧ Ext W2 wr) (fun _ i _ => 6 - (intOf i).toNat)
  case atStart => exact ⟨0, [], by omega, rfl, Lib.hid (by simp [numB]), by simp, OwnV.nil _, Ext.refl _⟩
  case round =>
    obtain ⟨j, cur, hj, rfl, HC, hcl, hown, hX⟩ := hrel
    obtain ⟨wo, rfl⟩ : ∃ W : World, W = wr := ⟨_, rfl⟩
    obtain ⟨AV, cV, hvv, _, _⟩ := id hown.inV
    obtain ⟨nc, hnc⟩ : ∃ n, n = cur.length := ⟨_, rfl⟩
    rw [← hnc] at hvv
    subst hvv
    by_cases hlt : j < 6
    · have hij : (j : Int) < 6 := by omega
      have hlt' : j < vs.length := by rw [HVL.out]; exact hlt
      obtain ⟨bb, oo, e0, hc0⟩ := (HRD.out.ext hX).at2 (k := j) (by simpa using hlt')
      cases e0
      have HTS := Lib.hid (List.take_succ_eq_append_getElem hlt')
      have hxr := HVB.out _ (List.getElem_mem hlt')
      have hcell : wo.cell? ⟨gv, j, none⟩ = some (.int .i64 vs[j]) := by have := hc0; simpa [iv] using this
      generalize vs[j] = x at *
      have hul := uintB_len (v := x) (by omega)
      have HUL := Lib.hid hul
      clear hc0 hnc hul
      go_wp2_with fail
      refine (refAppendUint_any _ cur x wo hown.inV (by omega) (by omega)).mono ?_
      rintro en w5 ⟨y5, rfl, ho5, he5⟩
      obtain ⟨cn, hcn⟩ : ∃ b, b = cur ++ uintB x := ⟨_, rfl⟩
      have hcnl : cn.length ≤ 10 * (j + 1) := by have := HUL.out; rw [hcn, List.length_append]; omega
      have hownn := ho5.toV.low hX.size
      rw [← hcn] at hownn
      have HCN : Hid (cn = numB (vs.take (j + 1))) := Lib.hid (by
        rw [hcn, HTS.out, numB_app, HC.out]
        simp [numB])
      have hXn := hX.trans he5
      clear ho5 he5 hown hX hcn hcell
      go_wp2_with fail
      go_roundw
      case rel => exact ⟨j + 1, cn, by omega, by first | (with_reducible rfl) | go_num, HCN, hcnl, hownn, hXn⟩
      case measure => simp [intOf]; omega
    · have hij : ¬ (j : Int) < 6 := by omega
      have HC6 : Hid (cur = numB vs) := Lib.hid (by rw [HC.out, List.take_of_length_le (by have := HVL.out; omega)])
      have hcl60 : cur.length ≤ 60 := by omega
      obtain ⟨q0, q1, q2, q3, q4, q5⟩ := blk6 (hX.heap hB2)
      clear HC hcl hnc
      go_wp2_with fail
      clear q0 q1 q2 q3 q4 q5
      have HY2 : Hid (InR plcCells W2 (.slice A5 n5 c5) r.places) := Lib.hid (HY.out.ext hE2)
      go_loopw [5, 42] (fun v i wr => ∃ (k : Nat) (cur : List UInt8), k ≤ n5 ∧ i = .int .i64 (k : Int) ∧ Hid (cur = numB vs ++ (r.places.take k).flatMap encPl) ∧ cur.length ≤ 60 + 21 * k ∧ OwnV bv 5 W2.heap.size wr v cur ∧ Ext W2 wr) (fun _ i _ => n5 - (intOf i).toNat)
      case atStart => exact ⟨0, cur, by omega, rfl, Lib.hid (by rw [HC6.out]; simp), by omega, hown, hX⟩
      case round =>
        clear hown hX HC6 hcl60
        obtain ⟨k, cur, hk, rfl, HC, hcl, hown, hXk⟩ := hrel
        obtain ⟨wq, rfl⟩ : ∃ W : World, W = wr := ⟨_, rfl⟩
        obtain ⟨AV, cV, hvv, _, _⟩ := id hown.inV
        obtain ⟨nc, hnc⟩ : ∃ n, n = cur.length := ⟨_, rfl⟩
        rw [← hnc] at hvv
        subst hvv
        clear hnc
        by_cases hlk : k < n5
        · have hki : (k : Int) < (n5 : Int) := by omega
          have hlk' : k < r.places.length := by rw [← HN5.out]; exact hlk
          obtain ⟨b6, o6, e6, hrp⟩ := (HY2.out.ext hXk).at_ (k := 3) (fun _ _ => rfl) (by omega) hlk'
          subst e6
          have HTP := Lib.hid (List.take_succ_eq_append_getElem hlk')
          have hokp := HPL.out _ (List.getElem_mem hlk')
          have hadd := HAD.out _ (List.getElem_mem hlk')
          generalize r.places[k] = p at *
          have hkn := hokp.kind_
          have hpnl := pnB_len hokp
          have hpal := paB_len hadd
          have HPNL := Lib.hid hpnl
          have HPAL := Lib.hid hpal
          unfold I64 at hadd
          have HST : Hid (∀ x y, pnB p = x → paB p = y → ((cur ++ [pkB p]) ++ x) ++ y = numB vs ++ (r.places.take (k + 1)).flatMap encPl) := Lib.hid (fun x y hx hy => by
            rw [HTP.out, List.flatMap_append, HC.out, ← hx, ← hy]
            simp [encPl])
          have hld := plc_load hrp
          obtain ⟨hst, hG, hXG⟩ := box_new (P := Try.prog) wq 75 #[.int .i64 0, .int .i64 0, .int .i64 0] #[.int .i64 p.kind, .int .i64 p.n, .int .i64 p.add] pc_size rfl (by simp [Value.oneCell'])
          go_upto_region 10 with first | refine wpList_load_run rfl 75 (.tmp 44) rfl _ _ rfl hld ?_ | refine wpList_store_run rfl 75 (.tmp 9) (.tmp 45) rfl _ _ _ rfl rfl hst ?_
          obtain ⟨g9, hg9⟩ : ∃ g, g = wq.heap.size := ⟨_, rfl⟩
          rw [← hg9] at hG hXG ⊢
          generalize (wq.alloc (.cells #[.int .i64 0, .int .i64 0, .int .i64 0] 75)).setRow g9 #[.int .i64 p.kind, .int .i64 p.n, .int .i64 p.add] = wv at *
          have hkB : ∀ kk : Int, kk = (p.kind + if p.add = 0 then 0 else 8) → 0 ≤ kk → kk < 256 → Value.int .u8 kk = bv (pkB p) := fun kk hkk h1 h2 => by
            unfold pkB bv
            rw [← hkk]
            have : ((UInt8.ofNat kk.toNat).toNat : Int) = kk := by
              rw [UInt8.toNat_ofNat']
              omega
            rw [this]
          have wk1 : IntKind.u8.wrap p.kind = p.kind := by rw [IntKind.wrap_u8]; omega
          have HKB := Lib.hid hkB
          clear hst hld hrp hg9 hpnl hpal hkB hokp
          obtain ⟨r0, r1, r2⟩ := blk3 hG
          by_cases h0 : p.add = 0
          · have d0 : (p.add != 0) = false := by simpa using h0
            have HPA := Lib.hid (paB_no h0)
            have HBK : Hid (Value.int .u8 p.kind = bv (pkB p)) := Lib.hid (HKB.out _ (by rw [if_pos h0]; omega) (by omega) (by omega))
            clear h0
            go_upto_region 13 with fail
            clear r0 r1 r2
            have hA9 := (Ext.refl wv).alloc (.cells #[.int .u8 p.kind] 5)
            have hin9 : InB (wv.alloc (.cells #[.int .u8 p.kind] 5)) (.slice (some ⟨wv.heap.size, 0, none⟩) 1 1) [pkB p] := by rw [HBK.out]; exact ⟨_, 1, rfl, Nat.le_refl _, Rd_blk (heap_alloc_new _ _)⟩
            have hov := hown.ext (hXG.trans hA9)
            have hsz9 := Nat.le_trans (Nat.le_trans hXk.size hXG.size) hA9.size
            go_wp2_with (at_builtin; go_must (refine wpList_appendV elem_u8 (fun _ => rfl) rfl (.tmp 54) (.tmp 56) rfl W2.heap.size _ cur rfl hov _ [pkB p] rfl hin9 (by simp only [List.length_cons, List.length_nil]; omega) (by omega) hsz9 (Hold.out ?_)))
            refine Hold.mk fun v9 w9 ho9 hg9 => ?_
            have hG9 := blk_grown (hA9.heap hG) hg9.grown (fun e => hov.ne_blk (hA9.heap hG) (by decide) e.symm)
            have hX9 : Ext W2 w9 := hg9.ext ((hXk.trans hXG).trans hA9) hov.ge
            obtain ⟨V9, d9, hv9, _, _⟩ := ho9.inV
            obtain ⟨cu, hcu⟩ : ∃ c, c = cur ++ [pkB p] := ⟨_, rfl⟩
            have hcul : cu.length ≤ 61 + 21 * k := by rw [hcu, List.length_append]; simp only [List.length_cons, List.length_nil]; omega
            rw [← hcu] at hv9 ho9
            obtain ⟨nu, hnu⟩ : ∃ n, n = cu.length := ⟨_, rfl⟩
            rw [← hnu] at hv9
            subst hv9
            have HCU := Lib.hid hcu
            have hszu := hX9.size
            clear hA9 hin9 hov hsz9 hg9 hcu hnu hG hXk hXG hown
            obtain ⟨r0, r1, r2⟩ := blk3 hG9
            by_cases h1 : p.kind = 1
            · have d1 : (p.kind != 1) = false := by simpa using h1
              obtain ⟨cn, hcn⟩ : ∃ c, c = cu := ⟨_, rfl⟩
              have HCN : Hid (cn = numB vs ++ (r.places.take (k + 1)).flatMap encPl) := Lib.hid (by have := HST.out [] [] (pnB_one h1) HPA.out; rw [hcn, HCU.out]; simpa using this)
              have hcnl : cn.length ≤ 60 + 21 * (k + 1) := by rw [hcn]; omega
              have hownn := ho9
              rw [← hcn] at hownn
              have hXn := hX9
              clear h1 hcn ho9 hX9
              go_wp2_with fail
              go_roundw
              case rel => exact ⟨k + 1, cn, by omega, by first | (with_reducible rfl) | go_num, HCN, hcnl, hownn, hXn⟩
              case measure => simp [intOf]; omega
            · have d1 : (p.kind != 1) = true := by simpa using h1
              have HPN := Lib.hid (pnB_num h1)
              clear h1
              go_wp2_with fail
              refine (refAppendUint_any _ cu p.n w9 ho9.inV (by omega) (by omega)).mono ?_
              rintro en wu ⟨yu, rfl, hou, heu⟩
              rw [← HPN.out] at hou
              obtain ⟨cn, hcn⟩ : ∃ c, c = cu ++ pnB p := ⟨_, rfl⟩
              have hownn := hou.toV.low hszu
              rw [← hcn] at hownn
              have HCN : Hid (cn = numB vs ++ (r.places.take (k + 1)).flatMap encPl) := Lib.hid (by have := HST.out _ [] rfl HPA.out; rw [hcn, HCU.out]; simpa using this)
              have hcnl : cn.length ≤ 60 + 21 * (k + 1) := by have := HPNL.out; rw [hcn, List.length_append]; omega
              have hXn := hX9.trans heu
              have hGu := heu.heap hG9
              clear hcn ho9 hX9 hou heu hG9 r0 r1 r2
              obtain ⟨r0, r1, r2⟩ := blk3 hGu
              go_wp2_with fail
              go_roundw
              case rel => exact ⟨k + 1, cn, by omega, by first | (with_reducible rfl) | go_num, HCN, hcnl, hownn, hXn⟩
              case measure => simp [intOf]; omega
          · have d0 : (p.add != 0) = true := by simpa using h0
            have HPA := Lib.hid (paB_yes h0)
            have HBK : Hid (Value.int .u8 (p.kind + 8) = bv (pkB p)) := Lib.hid (HKB.out _ (by rw [if_neg h0]) (by omega) (by omega))
            have wk2 : IntKind.u8.wrap (p.kind + 8) = p.kind + 8 := by rw [IntKind.wrap_u8]; omega
            clear h0
            go_upto_region 13 with fail
            clear r0 r1 r2
            have hA9 := (Ext.refl wv).alloc (.cells #[.int .u8 (p.kind + 8)] 5)
            have hin9 : InB (wv.alloc (.cells #[.int .u8 (p.kind + 8)] 5)) (.slice (some ⟨wv.heap.size, 0, none⟩) 1 1) [pkB p] := by rw [HBK.out]; exact ⟨_, 1, rfl, Nat.le_refl _, Rd_blk (heap_alloc_new _ _)⟩
            have hov := hown.ext (hXG.trans hA9)
            have hsz9 := Nat.le_trans (Nat.le_trans hXk.size hXG.size) hA9.size
            go_wp2_with (at_builtin; go_must (refine wpList_appendV elem_u8 (fun _ => rfl) rfl (.tmp 54) (.tmp 56) rfl W2.heap.size _ cur rfl hov _ [pkB p] rfl hin9 (by simp only [List.length_cons, List.length_nil]; omega) (by omega) hsz9 (Hold.out ?_)))
            refine Hold.mk fun v9 w9 ho9 hg9 => ?_
            have hG9 := blk_grown (hA9.heap hG) hg9.grown (fun e => hov.ne_blk (hA9.heap hG) (by decide) e.symm)
            have hX9 : Ext W2 w9 := hg9.ext ((hXk.trans hXG).trans hA9) hov.ge
            obtain ⟨V9, d9, hv9, _, _⟩ := ho9.inV
            obtain ⟨cu, hcu⟩ : ∃ c, c = cur ++ [pkB p] := ⟨_, rfl⟩
            have hcul : cu.length ≤ 61 + 21 * k := by rw [hcu, List.length_append]; simp only [List.length_cons, List.length_nil]; omega
            rw [← hcu] at hv9 ho9
            obtain ⟨nu, hnu⟩ : ∃ n, n = cu.length := ⟨_, rfl⟩
            rw [← hnu] at hv9
            subst hv9
            have HCU := Lib.hid hcu
            have hszu := hX9.size
            clear hA9 hin9 hov hsz9 hg9 hcu hnu hG hXk hXG hown
            obtain ⟨r0, r1, r2⟩ := blk3 hG9
            by_cases h1 : p.kind = 1
            · have d1 : (p.kind != 1) = false := by simpa using h1
              have HPN := Lib.hid (pnB_one h1)
              clear h1
              go_wp2_with fail
              refine (refAppendInt_any _ cu p.add w9 ho9.inV (by omega) (by omega) (by omega)).mono ?_
              rintro en wu ⟨yu, rfl, hou, heu⟩
              rw [← HPA.out] at hou
              obtain ⟨cn, hcn⟩ : ∃ c, c = cu ++ paB p := ⟨_, rfl⟩
              have hownn := hou.toV.low hszu
              rw [← hcn] at hownn
              have HCN : Hid (cn = numB vs ++ (r.places.take (k + 1)).flatMap encPl) := Lib.hid (by have := HST.out [] _ HPN.out rfl; rw [hcn, HCU.out]; simpa using this)
              have hcnl : cn.length ≤ 60 + 21 * (k + 1) := by have := HPAL.out; rw [hcn, List.length_append]; omega
              have hXn := hX9.trans heu
              clear hcn ho9 hX9 hou heu hG9 r0 r1 r2
              go_wp2_with fail
              go_roundw
              case rel => exact ⟨k + 1, cn, by omega, by first | (with_reducible rfl) | go_num, HCN, hcnl, hownn, hXn⟩
              case measure => simp [intOf]; omega
            · have d1 : (p.kind != 1) = true := by simpa using h1
              have HPN := Lib.hid (pnB_num h1)
              clear h1
              go_wp2_with fail
              refine (refAppendUint_any _ cu p.n w9 ho9.inV (by omega) (by omega)).mono ?_
              rintro en wu ⟨yu, rfl, hou, heu⟩
              rw [← HPN.out] at hou
              obtain ⟨cm, hcm⟩ : ∃ c, c = cu ++ pnB p := ⟨_, rfl⟩
              have hownm := hou.toV.low hszu
              rw [← hcm] at hownm
              have hcml : cm.length ≤ 71 + 21 * k := by have := HPNL.out; rw [hcm, List.length_append]; omega
              have HCM := Lib.hid hcm
              have hXm := hX9.trans heu
              have hGu := heu.heap hG9
              clear hcm ho9 hX9 hou heu hG9 r0 r1 r2
              obtain ⟨r0, r1, r2⟩ := blk3 hGu
              go_wp2_with fail
              refine (refAppendInt_any _ cm p.add wu hownm.inV (by omega) (by omega) (by omega)).mono ?_
              rintro en wt ⟨yt, rfl, hot, het⟩
              rw [← HPA.out] at hot
              obtain ⟨cn, hcn⟩ : ∃ c, c = cm ++ paB p := ⟨_, rfl⟩
              have hownn := hot.toV.low hXm.size
              rw [← hcn] at hownn
              have HCN : Hid (cn = numB vs ++ (r.places.take (k + 1)).flatMap encPl) := Lib.hid (by have := HST.out _ _ rfl rfl; rw [hcn, HCM.out, HCU.out]; exact this)
              have hcnl : cn.length ≤ 60 + 21 * (k + 1) := by have := HPAL.out; rw [hcn, List.length_append]; omega
              have hXn := hXm.trans het
              clear hcn hownm hXm hot het hGu r0 r1 r2
              go_wp2_with fail
              go_roundw
              case rel => exact ⟨k + 1, cn, by omega, by first | (with_reducible rfl) | go_num, HCN, hcnl, hownn, hXn⟩
              case measure => simp [intOf]; omega
        · have hki : ¬ (k : Int) < (n5 : Int) := by omega
          have HE : Hid (cur = encRng was r) := Lib.hid (by rw [HC.out, HENC.out, List.take_of_length_le (by rw [← HN5.out]; omega)])
          clear HC
          go_wp2_with fail
          refine bodyPost_ret (by simp [results, Try.results73, go_sem]; rfl) rfl ?_
          exact ⟨_, rfl, by rw [← HE.out]; exact hown.low hW2, hE2.trans hXk⟩
end Go.Proofs.Ytokmbdeafjmcjaa
/- What the specification encodes lists to: the walk of ref.Encode. -/
namespace Go.Proofs.Ytokmbdeafjmcjaa
open Go.RowKit
set_option linter.unusedVariables false
set_option linter.unusedSimpArgs false

theorem encRng_len {was lo hi : Int} {r : Rng} (h : okNum lo hi r) (hp : okPl r) (ha : ∀ p ∈ r.places, I64 p.add) (hw : 0 ≤ was ∧ was ≤ r.lo ∧ hi ≤ 1048576) : (encRng was r).length ≤ 900 := by
  unfold okNum at h
  have h1 := hp.2.1
  have h2 := numB_len (vs := [r.lo - was, r.hi - r.lo, r.ctx, r.var, r.piece, (r.places.length : Int)]) (by simp only [List.mem_cons, List.not_mem_nil, or_false, forall_eq_or_imp, forall_eq]; omega)
  have h3 := encPls_len (l := r.places) (fun p hp' => ⟨hp.2.2 p hp', ha p hp'⟩)
  unfold encRng
  rw [List.length_append]
  simp only [List.length_cons, List.length_nil] at h2
  omega
theorem rngsN_take_le (l : List PTab) (j : Nat) : rngsN (l.take j) ≤ rngsN l := by
  have h : rngsN l = rngsN (l.take j) + rngsN (l.drop j) := by
    unfold rngsN
    rw [← List.sum_append, ← List.map_append, List.take_append_drop]
  omega
set_option maxHeartbeats 40000000 in
set_option maxRecDepth 100000 in
theorem refEncode19_any (l : List PTab) (v : Value) (w : World) (hv : PTabs w v l) (hI : ∀ t ∈ l, t.I) (hA : AddsIn l) (hl : l.length ≤ 9223372036854775807) : Calls Try.prog 43 #[v] w (EncPost (EncP l) w) := by
  obtain ⟨A, c, rfl⟩ := hv.form
  obtain ⟨nl, hnl⟩ : ∃ n, n = l.length := ⟨_, rfl⟩
  have HV := Lib.hid hv
  have HI := Lib.hid hI
  have HA := Lib.hid hA
  rw [← hnl] at HV hl ⊢
  have HNL := Lib.hid hnl
  clear hv hI hA hnl
  go_enter Try.func43, Try.ntmps43
  go_wp2_with fail
  refine (refRight19_any l _ w HV.out HI.out (by rw [← HNL.out]; exact hl)).mono ?_
  rintro en w1 ⟨rr, rfl, hr, hx1⟩
  cases rr with
  | false =>
    have HN : Hid (EncP l = []) := Lib.hid (by unfold EncP; rw [if_neg (fun h => by have := hr.2 h; cases this)])
    clear hr
    go_wp2_with fail
    refine bodyPost_ret (by simp [results, Try.results43, go_sem]; rfl) rfl ?_
    exact ⟨_, rfl, by rw [HN.out]; exact OwnV.nil _, hx1⟩
  | true =>
  have HR := Lib.hid (hr.1 rfl)
  have hl8 : nl ≤ 8 := by rw [HNL.out]; exact HR.out.1
  have HOK := Lib.hid (okPs_mem (by omega) HR.out.2.1)
  have HV1 := Lib.hid (HV.out.ext hx1)
  have hR8 : rngsN l ≤ 8000 := HR.out.2.2
  have HR8 := Lib.hid hR8
  clear hr hR8
  go_wp2_with fail
  refine (refAppendUint_any (.slice none 0 0) [] (nl : Int) w1 (InV.nil w1) (by simp) (by omega)).mono ?_
  rintro en w2 ⟨y2, rfl, ho2, hx2⟩
  obtain ⟨c0, hc0⟩ : ∃ c0 : List UInt8, c0 = [] ++ uintB (nl : Int) := ⟨_, rfl⟩
  have hc0l : c0.length ≤ 10 := by have := uintB_len (v := (nl : Int)) (by omega); rw [hc0]; simpa using this
  have HC0 : Hid (c0 = numB [(l.length : Int)]) := Lib.hid (by rw [hc0, ← HNL.out]; simp [numB])
  have ho20 := ho2.toV
  rw [← hc0] at ho20
  clear ho2 hc0
  go_wp2_with fail
  go_loopw [3, 20] (fun v i wr => ∃ (j : Nat) (cur : List UInt8), j ≤ nl ∧ i = .int .i64 (j : Int) ∧ Hid (cur = numB [(l.length : Int)] ++ (l.take j).flatMap encPT) ∧ Hid (cur.length ≤ 10 + 30 * j + 900 * rngsN (l.take j)) ∧ OwnV bv 5 w1.heap.size wr v cur ∧ Ext w1 wr) (fun _ i _ => nl - (intOf i).toNat)
  case atStart => exact ⟨0, c0, by omega, rfl, Lib.hid (by rw [HC0.out]; simp), Lib.hid (by omega), ho20, hx2⟩
  case round =>
    clear ho20 hx2
    obtain ⟨j, cur, hj, rfl, HC, HCL, hown, hX⟩ := hrel
    obtain ⟨wo, rfl⟩ : ∃ wo : World, wo = wr := ⟨_, rfl⟩
    obtain ⟨AV, cV, hvv, _, _⟩ := id hown.inV
    obtain ⟨nc, hnc⟩ : ∃ n, n = cur.length := ⟨_, rfl⟩
    have hcl : nc ≤ 7300000 := by have h1 := HCL.out; have h2 := rngsN_take_le l j; have h3 := HR8.out; omega
    rw [← hnc] at hvv
    subst hvv
    have HNC := Lib.hid hnc
    clear hnc
    by_cases hlt : j < nl
    · have hij : (j : Int) < (nl : Int) := by omega
      have hlt' : j < l.length := by rw [← HNL.out]; exact hlt
      obtain ⟨bb, oo, yv, e0, hra, hrw⟩ := (HV1.out.ext hX).at_ (j := j) (by rw [← HNL.out]; exact hlt)
      subst e0
      have HTK := Lib.hid (List.take_succ_eq_append_getElem hlt')
      have HSU := Lib.hid (rngsN_succ hlt')
      have HRT : Hid (rngsN (l.take (j + 1)) ≤ 8000) := Lib.hid (Nat.le_trans (rngsN_take_le l (j + 1)) HR8.out)
      have hok := HOK.out _ (List.getElem_mem hlt')
      have hadd := HA.out _ (List.getElem_mem hlt')
      generalize l[j] = t at *
      obtain ⟨A2, c2, rfl⟩ := hrw.form
      obtain ⟨n2, hn2⟩ : ∃ n, n = t.ranges.length := ⟨_, rfl⟩
      have hn8 : n2 ≤ 8000 := by have := HRT.out; have := HSU.out; omega
      have hld := ptab_load hra
      rw [← hn2] at hld hrw
      have HN2 := Lib.hid hn2
      have HRW := Lib.hid hrw
      have HRG := Lib.hid hok.2
      have hbd := hok.1
      have HAD := Lib.hid hadd
      clear hn2 hrw hok hadd
      obtain ⟨hst, hG, hXG⟩ := box_new (P := Try.prog) wo 66 #[.int .i64 0, .int .i64 0, .slice none 0 0] #[.int .i64 t.lo, .int .i64 t.hi, .slice A2 n2 c2] pl_size rfl (by simp [Value.oneCell'])
      go_upto_region 7 with first | refine wpList_load_run rfl 66 (.tmp 22) rfl _ _ rfl hld ?_ | refine wpList_store_run rfl 66 (.tmp 5) (.tmp 23) rfl _ _ _ rfl rfl hst ?_
      obtain ⟨g5, hg5⟩ : ∃ g, g = wo.heap.size := ⟨_, rfl⟩
      rw [← hg5] at hG hXG ⊢
      generalize (wo.alloc (.cells #[.int .i64 0, .int .i64 0, .slice none 0 0] 66)).setRow g5 #[.int .i64 t.lo, .int .i64 t.hi, .slice A2 n2 c2] = wg at *
      have hXg := hX.trans hXG
      have hog := hown.ext hXG
      have HRG2 : Hid (RngsIn wg (.slice A2 n2 c2) t.ranges) := Lib.hid (HRW.out.ext hXG)
      obtain ⟨r0, r1, r2⟩ := blkT hG
      obtain ⟨vs, hvs⟩ : ∃ v : List Int, v = [t.lo, t.hi, (n2 : Int)] := ⟨_, rfl⟩
      have hA := (Ext.refl wg).alloc (.cells #[.int .i64 t.lo, .int .i64 t.hi, .int .i64 (n2 : Int)] 3)
      have hin : InI (wg.alloc (.cells #[.int .i64 t.lo, .int .i64 t.hi, .int .i64 (n2 : Int)] 3)) (.slice (some ⟨wg.heap.size, 0, none⟩) 3 3) vs := by rw [hvs]; exact ⟨_, 3, rfl, Nat.le_refl _, Rd_blk (heap_alloc_new wg (.cells #[.int .i64 t.lo, .int .i64 t.hi, .int .i64 (n2 : Int)] 3))⟩
      have HVL : Hid (vs.length = 3) := Lib.hid (by rw [hvs]; rfl)
      have HVB : Hid (∀ v ∈ vs, 0 ≤ v ∧ v ≤ 1048576) := Lib.hid (by rw [hvs]; simp only [List.mem_cons, List.not_mem_nil, or_false, forall_eq_or_imp, forall_eq]; omega)
      have HENC : Hid (encPT t = numB vs ++ encRngs t.lo t.ranges) := Lib.hid (by unfold encPT; rw [hvs, HN2.out])
      clear hvs hst hld hra hg5 hX hown hXG
      go_wp2_with fail
      have hXa := hXg.trans hA
      have hoa := hog.ext hA
      have HRG3 : Hid (RngsIn (wg.alloc (.cells #[.int .i64 t.lo, .int .i64 t.hi, .int .i64 (n2 : Int)] 3)) (.slice A2 n2 c2) t.ranges) := Lib.hid (HRG2.out.ext hA)
      have hGa := hA.heap hG
      clear r0 r1 r2 hA hXg hog hG HRG2
      generalize hW2e : wg.alloc (.cells #[.int .i64 t.lo, .int .i64 t.hi, .int .i64 (n2 : Int)] 3) = wa at *
      clear hW2e
      generalize wg.heap.size = gv at *
      obtain ⟨AI, cI, hI, _, hrdI⟩ := hin
      have HRD : Hid (Rd wa (some ⟨gv, 0, none⟩) (vs.map iv)) := Lib.hid (by injection hI with hI1 hI2 hI3; rw [hI1]; exact hrdI)
      clear hI hrdI
      go_loopw [3, 33] (fun v i wr => ∃ (q : Nat) (cu : List UInt8), q ≤ 3 ∧ i = .int .i64 (q : Int) ∧ Hid (cu = cur ++ numB (vs.take q)) ∧ cu.length ≤ nc + 10 * q ∧ OwnV bv 5 w1.heap.size wr v cu ∧ Ext wa wr) (fun _ i _ => 3 - (intOf i).toNat)
      case atStart => exact ⟨0, cur, by omega, rfl, Lib.hid (by simp [numB]), by have := HNC.out; omega, hoa, Ext.refl _⟩
      case round =>
        clear hoa
        obtain ⟨q, cu, hq, rfl, HU, hcul, hown, hXq⟩ := hrel
        obtain ⟨wq, rfl⟩ : ∃ W : World, W = wr := ⟨_, rfl⟩
        obtain ⟨AU, cU, hvv, _, _⟩ := id hown.inV
        obtain ⟨nu, hnu⟩ : ∃ n, n = cu.length := ⟨_, rfl⟩
        rw [← hnu] at hvv
        subst hvv
        have HNU := Lib.hid hnu
        clear hnu
        by_cases hlq : q < 3
        · have hiq : (q : Int) < 3 := by omega
          have hlq' : q < vs.length := by rw [HVL.out]; exact hlq
          obtain ⟨b1, o1, e1, hc1⟩ := (HRD.out.ext hXq).at2 (k := q) (by simpa using hlq')
          cases e1
          have HTS := Lib.hid (List.take_succ_eq_append_getElem hlq')
          have hxr := HVB.out _ (List.getElem_mem hlq')
          have hcell : wq.cell? ⟨gv, q, none⟩ = some (.int .i64 vs[q]) := by have := hc1; simpa [iv] using this
          generalize vs[q] = x at *
          have HUL := Lib.hid (uintB_len (v := x) (by omega))
          clear hc1
          go_wp2_with fail
          refine (refAppendUint_any _ cu x wq hown.inV (by omega) (by omega)).mono ?_
          rintro en w5 ⟨y5, rfl, ho5, he5⟩
          obtain ⟨cn, hcn⟩ : ∃ b, b = cu ++ uintB x := ⟨_, rfl⟩
          have hcnl : cn.length ≤ nc + 10 * (q + 1) := by have := HUL.out; rw [hcn, List.length_append]; omega
          have hownn := ho5.toV.low (Nat.le_trans hXa.size hXq.size)
          rw [← hcn] at hownn
          have HCN : Hid (cn = cur ++ numB (vs.take (q + 1))) := Lib.hid (by
            rw [hcn, HTS.out, numB_app, HU.out]
            simp [numB])
          have hXn := hXq.trans he5
          clear ho5 he5 hown hXq hcn hcell
          go_wp2_with fail
          go_roundw
          case rel => exact ⟨q + 1, cn, by omega, by first | (with_reducible rfl) | go_num, HCN, hcnl, hownn, hXn⟩
          case measure => simp [intOf]; omega
        · have hiq : ¬ (q : Int) < 3 := by omega
          have HU3 : Hid (cu = cur ++ numB vs) := Lib.hid (by rw [HU.out, List.take_of_length_le (by have := HVL.out; omega)])
          have hnu30 : nu ≤ nc + 30 := by have := HNU.out; omega
          have hX1 := hXa.trans hXq
          have hGq := hXq.heap hGa
          have HRG4 : Hid (RngsIn wq (.slice A2 n2 c2) t.ranges) := Lib.hid (HRG3.out.ext hXq)
          obtain ⟨r0, r1, r2⟩ := blkT hGq
          clear HU hcul hXq hXa hGa HRG3
          go_wp2_with fail
          clear r0 r1 r2 hGq
          go_loopw [8, 9, 46] (fun wv b i wr => ∃ (k : Nat) (was : Int) (bs : List UInt8), k ≤ n2 ∧ i = .int .i64 (k : Int) ∧ wv = .int .i64 was ∧ Hid (was = lastLo t.lo (t.ranges.take k)) ∧ Hid (bs = encRngs t.lo (t.ranges.take k)) ∧ bs.length ≤ 900 * k ∧ OwnV bv 5 wq.heap.size wr b bs ∧ Ext wq wr) (fun _ _ i _ => n2 - (intOf i).toNat)
          case atStart => exact ⟨0, t.lo, [], by omega, rfl, rfl, Lib.hid rfl, Lib.hid rfl, by simp, OwnV.nil _, Ext.refl _⟩
          case round =>
            obtain ⟨k, was, bs, hk, rfl, rfl, HW, HB, hbl, hob, hXk⟩ := hrel
            obtain ⟨wk, rfl⟩ : ∃ W : World, W = wr := ⟨_, rfl⟩
            obtain ⟨AB, cB, hvv, _, _⟩ := id hob.inV
            obtain ⟨nb, hnb⟩ : ∃ n, n = bs.length := ⟨_, rfl⟩
            rw [← hnb] at hvv
            subst hvv
            have HNB := Lib.hid hnb
            clear hnb
            by_cases hlk : k < n2
            · have hki : (k : Int) < (n2 : Int) := by omega
              have hlk' : k < t.ranges.length := by rw [← HN2.out]; exact hlk
              obtain ⟨b6, o6, yr, e6, hrr, hrp⟩ := (HRG4.out.ext hXk).at_ (j := k) hlk'
              subst e6
              have hokA := HRG.out k hlk'
              have hlast := okAt_last HRG.out hlk'
              have HTR := Lib.hid (List.take_succ_eq_append_getElem hlk')
              have haddr := HAD.out _ (List.getElem_mem hlk')
              rw [← HW.out] at hlast
              have hokn := hokA.1
              have hokp := hokA.2.1
              have hw0 : 0 ≤ was := by
                have := HW.out
                rw [lastLo_eq] at this
                cases hg : (t.ranges.take k).getLast? with
                | none => rw [hg] at this; simp only [Option.map_none, Option.getD_none] at this; omega
                | some p =>
                  rw [hg] at this
                  simp only [Option.map_some, Option.getD_some] at this
                  have hm := List.mem_of_mem_take (List.mem_of_getLast? hg)
                  obtain ⟨i0, hi0, he0⟩ := List.getElem_of_mem hm
                  have h9 := (HRG.out i0 hi0).1
                  rw [he0] at h9
                  unfold okNum at h9
                  omega
              clear hokA
              generalize t.ranges[k] = r at *
              have hrl := encRng_len hokn hokp haddr ⟨hw0, hlast, hbd.2.2⟩
              unfold okNum at hokn
              obtain ⟨A5, c5, rfl, _, _⟩ := id hrp
              obtain ⟨n5, hn5⟩ : ∃ n, n = r.places.length := ⟨_, rfl⟩
              have hld := rng_load hrr
              rw [← hn5] at hld hrp
              obtain ⟨hst, hG, hXG⟩ := box_new (P := Try.prog) wk 69 #[.int .i64 0, .int .i64 0, .int .i64 0, .int .i64 0, .int .i64 0, .slice none 0 0] #[.int .i64 r.ctx, .int .i64 r.var, .int .i64 r.piece, .int .i64 r.lo, .int .i64 r.hi, .slice A5 n5 c5] rg_size rfl (by simp [Value.oneCell'])
              clear hn5
              go_upto_region 17 with first | refine wpList_load_run rfl 69 (.tmp 48) rfl _ _ rfl hld ?_ | refine wpList_store_run rfl 69 (.tmp 11) (.tmp 49) rfl _ _ _ rfl rfl hst ?_
              obtain ⟨g9, hg9⟩ : ∃ g, g = wk.heap.size := ⟨_, rfl⟩
              rw [← hg9] at hG hXG ⊢
              generalize (wk.alloc (.cells #[.int .i64 0, .int .i64 0, .int .i64 0, .int .i64 0, .int .i64 0, .slice none 0 0] 69)).setRow g9 #[.int .i64 r.ctx, .int .i64 r.var, .int .i64 r.piece, .int .i64 r.lo, .int .i64 r.hi, .slice A5 n5 c5] = wv at *
              clear hg9 hst hld hrr
              have hldr := run_loadAt_blk (P := Try.prog) wv g9 69 69 _ (0, 0) _ hG Try.underlying69 rfl rg_size
              go_wp2_with first | refine wpList_load_run rfl 69 (.tmp 11) rfl _ _ rfl hldr ?_
              refine (refOne19_any r was _ wv (hrp.ext hXG) (by omega) (by omega) hokp haddr).mono ?_
              rintro en wu ⟨yu, rfl, hou, heu⟩
              have hXu := (hXk.trans hXG).trans heu
              have hobu := hob.ext (hXG.trans heu)
              have hGu := heu.heap hG
              have hszu := hXu.size
              obtain ⟨er, her⟩ : ∃ e, e = encRng was r := ⟨_, rfl⟩
              rw [← her] at hou hrl
              have HER := Lib.hid her
              have hiu : InB wu yu er := hou.inV
              clear her hou heu hrp hXG hXk hldr hG hob
              go_wp2_with (at_builtin; go_must (refine wpList_appendV elem_u8 (fun _ => rfl) rfl (.tmp 50) (.tmp 53) rfl wq.heap.size _ bs rfl hobu _ er rfl hiu (by omega) (by omega) hszu (Hold.out ?_)))
              refine Hold.mk fun v9 w9 ho9 hg9 => ?_
              have hX9 : Ext wq w9 := hg9.ext hXu hobu.ge
              have hG9 := blk_grown hGu hg9.grown (fun e => hobu.ne_blk hGu (by decide) e.symm)
              obtain ⟨bn, hbn⟩ : ∃ b, b = bs ++ er := ⟨_, rfl⟩
              have hbnl : bn.length ≤ 900 * (k + 1) := by rw [hbn, List.length_append]; omega
              rw [← hbn] at ho9
              have HBN : Hid (bn = encRngs t.lo (t.ranges.take (k + 1))) := Lib.hid (by rw [hbn, HTR.out, encRngs_snoc, HB.out, HER.out, HW.out])
              have HWN : Hid (r.lo = lastLo t.lo (t.ranges.take (k + 1))) := Lib.hid (by rw [HTR.out, lastLo_snoc])
              obtain ⟨r0, r1, r2, r3, r4, r5⟩ := blk6 hG9
              clear hg9 hobu hXu hiu hbn hGu
              go_wp2_with fail
              go_roundw
              case rel => exact ⟨k + 1, r.lo, bn, by omega, by first | (with_reducible rfl) | go_num, rfl, HWN, HBN, hbnl, ho9, hX9⟩
              case measure => simp [intOf]; omega
            · have hki : ¬ (k : Int) < (n2 : Int) := by omega
              have HBE : Hid (bs = encRngs t.lo t.ranges) := Lib.hid (by rw [HB.out, List.take_of_length_le (by rw [← HN2.out]; omega)])
              have hown2 := hown.ext hXk
              have hX2 := hX1.trans hXk
              have hib : InB wk (.slice AB nb cB) bs := hob.inV
              have hsz2 := hX2.size
              have hsum : cu.length + bs.length ≤ 1073741824 := by have := HNU.out; omega
              clear HB HW hown hX1 hXk hob
              go_wp2_with (at_builtin; go_must (refine wpList_appendV elem_u8 (fun _ => rfl) rfl (.tmp 58) (.tmp 59) rfl w1.heap.size _ cu rfl hown2 _ bs rfl hib hsum (by omega) hsz2 (Hold.out ?_)))
              refine Hold.mk fun v9 w9 ho9 hg9 => ?_
              have hX9 : Ext w1 w9 := hg9.ext hX2 hown2.ge
              obtain ⟨cn, hcn⟩ : ∃ b, b = cu ++ bs := ⟨_, rfl⟩
              rw [← hcn] at ho9
              have HCN : Hid (cn = numB [(l.length : Int)] ++ (l.take (j + 1)).flatMap encPT) := Lib.hid (by
                rw [hcn, HTK.out, List.flatMap_append, HU3.out, HC.out, HBE.out]
                simp [HENC.out])
              have HCNL : Hid (cn.length ≤ 10 + 30 * (j + 1) + 900 * rngsN (l.take (j + 1))) := Lib.hid (by
                have h1 := HSU.out
                have h2 := HNU.out
                have h3 := HNC.out
                have h4 := HCL.out
                have h5 := HN2.out
                rw [hcn, List.length_append]
                omega)
              clear hg9 hown2 hX2 hib hcn hsum
              go_wp2_with fail
              go_roundw
              case rel => exact ⟨j + 1, cn, by omega, by first | (with_reducible rfl) | go_num, HCN, HCNL, ho9, hX9⟩
              case measure => simp [intOf]; omega
    · have hij : ¬ (j : Int) < (nl : Int) := by omega
      have HBE : Hid (cur = encPs l) := Lib.hid (by rw [HC.out, List.take_of_length_le (by rw [← HNL.out]; omega)]; rfl)
      clear HC
      by_cases h6 : 60000 < nc
      · have d6 : decide ((60000 : Int) < (nc : Int)) = true := by simp; omega
        have HE : Hid (EncP l = []) := Lib.hid (by unfold EncP; rw [if_pos HR.out, if_neg (by rw [← HBE.out, ← HNC.out]; omega)])
        go_wp2_with fail
        refine bodyPost_ret (by simp [results, Try.results43, go_sem]; rfl) rfl ?_
        exact ⟨_, rfl, by rw [HE.out]; exact OwnV.nil _, hx1.trans hX⟩
      · have d6 : decide ((60000 : Int) < (nc : Int)) = false := by simp; omega
        have HE : Hid (EncP l = cur) := Lib.hid (by unfold EncP; rw [if_pos HR.out, if_pos (by rw [← HBE.out, ← HNC.out]; omega)]; exact HBE.out.symm)
        go_wp2_with fail
        refine bodyPost_ret (by simp [results, Try.results43, go_sem]; rfl) rfl ?_
        exact ⟨_, rfl, by rw [HE.out]; exact hown.low hx1.size, hx1.trans hX⟩
end Go.Proofs.Ytokmbdeafjmcjaa
