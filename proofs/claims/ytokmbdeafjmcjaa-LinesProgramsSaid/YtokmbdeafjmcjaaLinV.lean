/- LinesPrograms: the walk. -/
import Derived.Test.YtokmbdeafjmcjaaLinVa
import Derived.Test.YtokmbdeafjmcjaaLinQ
import Derived.Test.YtokmbdeafjmcjaaLinS
namespace Go.Proofs.Ytokmbdeafjmcjaa
open Go.RowKit
set_option linter.unusedVariables false

set_option maxHeartbeats 40000000 in
set_option maxRecDepth 100000 in
theorem programs_walk (x : Value) (nums : List Int) (w : World) (hx : InI w x nums) : Calls Try.prog 7 #[x] w fun en w' => en = .returned (.bool true) ∧ Ext w w' := by
  obtain ⟨A, c, rfl, _, _⟩ := id hx
  go_enter Try.func7, Try.ntmps7
  go_wp2_with fail
  refine (tables_any _ nums w hx).mono ?_
  rintro en w1 ⟨y1, l, rfl, hT, hR, hl4, hN, hx1⟩
  obtain ⟨A1, c1, rfl⟩ := hT.in_.form
  have HT := Lib.hid hT
  have HR := Lib.hid hR
  have HN := Lib.hid hN
  clear hT hR hN hx
  go_wp2_with fail
  refine (refAppendUint_any (.slice none 0 0) [] (l.length : Int) w1 (InV.nil w1) (by simp) (by omega)).mono ?_
  rintro en w2 ⟨y2, rfl, ho2, hx2⟩
  go_wp2_with fail
  go_loopw [21, 4] (fun i v wr => ∃ (j : Nat) (cur : List UInt8), j ≤ l.length ∧ i = .int .i64 (j : Int) ∧ Hid (cur = longTs l.length (l.take j)) ∧ cur.length ≤ 10 + 40 * j + 60 * rowsN (l.take j) ∧ OwnV bv 5 w1.heap.size wr v cur ∧ Ext w wr ∧ Ext w1 wr) (fun i _ _ => l.length - (intOf i).toNat)
  case atStart => exact ⟨0, _, by omega, rfl, Lib.hid (by simp [longTs]), by have := uintB_len (v := (l.length : Int)) (by omega); simp [rowsN]; omega, ho2, hx1.trans hx2, hx2⟩
  case round =>
    obtain ⟨j, cur, hj, rfl, HC, hcl, hO, hX, hX1⟩ := hrel
    obtain ⟨wo, rfl⟩ : ∃ wo : World, wo = wr := ⟨_, rfl⟩
    by_cases hlt : j < l.length
    · have hij : (j : Int) < (l.length : Int) := by omega
      obtain ⟨bb, oo, y, rfl, hra0, hrw⟩ := HT.out.in_.at_ hlt
      have hra : wo.rangeAt bb (oo + j * 3) (ltabCells (l[j], y)) := fun i u hu => hX1.cell (hra0 i u hu)
      have hrows := hrw.ext hX1
      clear hra0
      have HTK := Lib.hid (List.take_succ_eq_append_getElem hlt)
      have HSU := Lib.hid (rowsN_succ hlt)
      have HTM := Lib.hid (HR.out.mem (List.getElem_mem hlt))
      generalize l[j] = t at *
      obtain ⟨A2, c2, rfl, _, _⟩ := id hrows
      have hld := ltab_load hra
      obtain ⟨hst, hG, hXG⟩ := box_new (P := Try.prog) wo 46 #[.int .i64 0, .int .i64 0, .slice none 0 0] #[.int .i64 t.lo, .int .i64 t.hi, .slice A2 t.rows.length c2] lt_size rfl (by simp [Value.oneCell'])
      go_upto_region 6 with first | refine wpList_load_run rfl 46 (.tmp 23) rfl _ _ rfl hld ?_ | refine wpList_store_run rfl 46 (.tmp 6) (.tmp 24) rfl _ _ _ rfl rfl hst ?_
      obtain ⟨g6, hg6⟩ : ∃ g, g = wo.heap.size := ⟨_, rfl⟩
      rw [← hg6] at hG hXG ⊢
      generalize (wo.alloc (.cells #[.int .i64 0, .int .i64 0, .slice none 0 0] 46)).setRow g6 #[.int .i64 t.lo, .int .i64 t.hi, .slice A2 t.rows.length c2] = wg at *
      dsimp only [Act.put]
      obtain ⟨r0, r1, r2⟩ := blkT hG
      have hXX := hX.trans hXG
      have hXX1 := hX1.trans hXG
      have hO1 := hO.ext hXG
      clear hst hld hra hXG hX hX1 hg6 hO
      obtain ⟨hok, hoR, hoN⟩ := HTM.out
      have hl1 := uintB_len (v := t.lo) (by omega)
      have hl2 := uintB_len (v := t.hi) (by omega)
      have hrN := rowsN_take_le l j
      have hN2 := HN.out
      have HRS : Hid (RowSt t.hi (row0 t.lo) t.lo t.rows) := Lib.hid ⟨small0 (by omega), by simp [row0], hoR⟩
      clear hoR hoN r0 r1 r2
      refine wp_region_X #[true, true, true, true, true, true, true, false] 7 1 (by kernel_rfl) rfl ?_
      refine wpX_v 0 (u4) rfl rfl (by kernel_rfl) (by kernel_rfl) (by kernel_rfl) (fun _ _ _ _ h => h) (by kernel_rfl) rfl (by rfl) (fun W' hW => by
        skip
        go_simp) ?_
      simp only [List.setIfInBounds_toArray, List.set_cons_zero, List.set_cons_succ]
      refine wpX_v 1 (.pointer (some ⟨g6, 0, none⟩)) rfl rfl (by kernel_rfl) (by kernel_rfl) (by kernel_rfl) (fun _ _ _ _ h => h) (by kernel_rfl) rfl (by rfl) (fun W' hW => by
        skip
        go_simp) ?_
      simp only [List.setIfInBounds_toArray, List.set_cons_zero, List.set_cons_succ]
      refine wpX_v 2 (.int .i64 t.lo) rfl rfl (by kernel_rfl) (by kernel_rfl) (by kernel_rfl) (fun _ _ _ _ h => h) (by kernel_rfl) rfl (by rfl) (fun W' hW => by
        obtain ⟨q0, q1, q2⟩ := blkT ((((Ext.refl wg).drew).trans hW).heap hG)
        go_simp) ?_
      simp only [List.setIfInBounds_toArray, List.set_cons_zero, List.set_cons_succ]
      refine wpX_v 4 (.pointer (some ⟨g6, 1, none⟩)) rfl rfl (by kernel_rfl) (by kernel_rfl) (by kernel_rfl) (fun _ _ _ _ h => h) (by kernel_rfl) rfl (by rfl) (fun W' hW => by
        skip
        go_simp) ?_
      simp only [List.setIfInBounds_toArray, List.set_cons_zero, List.set_cons_succ]
      refine wpX_v 5 (.int .i64 t.hi) rfl rfl (by kernel_rfl) (by kernel_rfl) (by kernel_rfl) (fun _ _ _ _ h => h) (by kernel_rfl) rfl (by rfl) (fun W' hW => by
        obtain ⟨q0, q1, q2⟩ := blkT ((((Ext.refl wg).drew).trans hW).heap hG)
        go_simp) ?_
      simp only [List.setIfInBounds_toArray, List.set_cons_zero, List.set_cons_succ]
      refine wpX_c 3 32 #[u4, .int .i64 t.lo] rfl rfl (by kernel_rfl) rfl rfl (fun W => by go_simp) ?_
      intro W hW
      have hOW := hO1.ext (((Ext.refl wg).drew).trans hW)
      refine (refAppendUint_any u4 cur t.lo W hOW.inV (by omega) (by omega)).mono ?_
      rintro en w3 ⟨y3, rfl, ho3, hx3⟩
      refine ⟨_, rfl, hx3, ?_⟩
      simp only [List.setIfInBounds_toArray, List.set_cons_zero, List.set_cons_succ]
      have hE3 := (((Ext.refl wg).drew).trans hW).trans hx3
      refine wpX_c 6 32 #[y3, .int .i64 t.hi] rfl rfl (by kernel_rfl) rfl rfl (fun W => by go_simp) ?_
      intro W' hW'
      refine (refAppendUint_any y3 (cur ++ uintB t.lo) t.hi W' (ho3.toV.ext hW').inV (by rw [List.length_append]; omega) (by omega)).mono ?_
      rintro en w4 ⟨y4, rfl, ho4, hx4⟩
      refine ⟨_, rfl, hx4, ?_⟩
      simp only [List.setIfInBounds_toArray, List.set_cons_zero, List.set_cons_succ]
      have hE4 := (hE3.trans hW').trans hx4
      refine wpX_end rfl fun W5 hW5 => tail_seq 7 rfl (by kernel_rfl) ?_
      refine wpList_run rfl _ (by go_simp; exact ⟨rfl, rfl⟩) ?_
      refine NoPanic.normal ?_
      obtain ⟨cur4, hc4⟩ : ∃ c, c = (cur ++ uintB t.lo) ++ uintB t.hi := ⟨_, rfl⟩
      have hcl4 : cur4.length ≤ 30 + 40 * j + 60 * rowsN (l.take j) := by rw [hc4, List.length_append, List.length_append]; omega
      rw [← hc4] at ho4
      have HC4 := Lib.hid hc4
      have hX5 := (hXX.trans hE4).trans hW5
      have hX51 := (hXX1.trans hE4).trans hW5
      have hO5 : OwnV bv 5 w1.heap.size W5 y4 cur4 := (ho4.toV.ext hW5).low ((hXX1.trans (hE3.trans hW')).size)
      have hG5 := (hE4.trans hW5).heap hG
      have hrw5 := hrw.ext hX51
      obtain ⟨p0, p1, p2⟩ := blkT hG5
      clear hc4 ho3 ho4 hx3 hx4 hE3 hE4 hW hW' hOW hXX hXX1 hO1 hG
      clear hrows
      obtain ⟨hst, hG7, hXG⟩ := box_new (P := Try.prog) W5 53 #[.int .i64 0, .int .i64 0, .int .i64 0, .bool false] #[.int .i64 t.lo, .int .i64 0, .int .i64 (-1), .bool false] rw_size rfl (by simp [Value.oneCell'])
      go_upto_region 8 with first | refine wpList_store_run rfl 53 (.tmp 7) (.tmp 34) rfl _ _ _ rfl rfl hst ?_
      obtain ⟨g7, hg7⟩ : ∃ g, g = W5.heap.size := ⟨_, rfl⟩
      rw [← hg7] at hG7 hXG ⊢
      have hs7 : w1.heap.size ≤ g7 := by rw [hg7]; exact hX51.size
      generalize (W5.alloc (.cells #[.int .i64 0, .int .i64 0, .int .i64 0, .bool false] 53)).setRow g7 #[.int .i64 t.lo, .int .i64 0, .int .i64 (-1), .bool false] = W6 at *
      have hG6 := hXG.heap hG5
      have hX6 := hX5.trans hXG
      have hX61 := hX51.trans hXG
      have hO6 := hO5.ext hXG
      have hrw6 := hrw5.ext hXG
      obtain ⟨p0, p1, p2⟩ := blkT hG6
      clear hst hXG hg7 hX5 hX51 hO5 hG5 hrw5
      have hn200 : t.rows.length ≤ 200 := by
        have h2 := rowsN_take_le l (j + 1)
        rw [HSU.out] at h2
        omega
      go_wp2_with fail
      go_loopw [38, 4] (fun i v wr => ∃ (k : Nat) (s : LRow) (c5 : List UInt8), k ≤ t.rows.length ∧ i = .int .i64 (k : Int) ∧ Hid (s = lastR (row0 t.lo) (t.rows.take k)) ∧ Hid (c5 = cur4 ++ longsB (row0 t.lo) (t.rows.take k)) ∧ c5.length ≤ cur4.length + 60 * k ∧ wr.heap[g7]? = some (.cells #[.int .i64 s.addr, .int .i64 s.ctx, .int .i64 s.stmt, .bool s.mark] 53 (0, 0)) ∧ wr.heap[g6]? = some (.cells #[.int .i64 t.lo, .int .i64 t.hi, .slice A2 t.rows.length c2] 46 (0, 0)) ∧ OwnV bv 5 w1.heap.size wr v c5 ∧ Ext w wr ∧ Ext w1 wr) (fun i _ _ => t.rows.length - (intOf i).toNat)
      case atStart => exact ⟨0, row0 t.lo, cur4, by omega, rfl, Lib.hid rfl, Lib.hid (by simp [longsB, longRows]), by omega, hG7, hG6, hO6, hX6, hX61⟩
      case round =>
        clear hX6 hX61 hO6 hG6 hG7 p0 p1 p2
        obtain ⟨k, s, c5, hk, rfl, HS, HC5, hc5, hG7, hG6, hO7, hX7, hX71⟩ := hrel
        obtain ⟨wi, rfl⟩ : ∃ wi : World, wi = wr := ⟨_, rfl⟩
        by_cases hkt : k < t.rows.length
        · have hik : (k : Int) < (t.rows.length : Int) := by omega
          obtain ⟨b8, o8, e8, hrr⟩ := (hrw.ext hX71).at_ (k := 4) (fun _ _ => rfl) (by omega) hkt
          cases e8
          have HTR := Lib.hid (List.take_succ_eq_append_getElem hkt)
          obtain ⟨hSs, hSr, hle⟩ := RowSt.at_ hok.2.2 t.rows k HRS.out hkt
          rw [← HS.out] at hSs hle
          generalize t.rows[k] = r at *
          have hld := lrow_load hrr
          obtain ⟨hst, hG9, hXG⟩ := box_new (P := Try.prog) wi 53 #[.int .i64 0, .int .i64 0, .int .i64 0, .bool false] #[.int .i64 r.addr, .int .i64 r.ctx, .int .i64 r.stmt, .bool r.mark] rw_size rfl (by simp [Value.oneCell'])
          go_upto_region 11 with first | refine wpList_load_run rfl 53 (.tmp 40) rfl _ _ rfl hld ?_ | refine wpList_store_run rfl 53 (.tmp 9) (.tmp 41) rfl _ _ _ rfl rfl hst ?_
          obtain ⟨g9, hg9⟩ : ∃ g, g = wi.heap.size := ⟨_, rfl⟩
          rw [← hg9] at hG9 hXG ⊢
          generalize (wi.alloc (.cells #[.int .i64 0, .int .i64 0, .int .i64 0, .bool false] 53)).setRow g9 #[.int .i64 r.addr, .int .i64 r.ctx, .int .i64 r.stmt, .bool r.mark] = wj at *
          have hG7' := hXG.heap hG7
          have hG6' := hXG.heap hG6
          have hO8 := hO7.ext hXG
          have hX8 := hX7.trans hXG
          have hX81 := hX71.trans hXG
          have hg79 : g7 ≠ g9 := by have := heap_lt hG7; omega
          clear hst hld hrr hXG hX7 hX71 hg9 hO7
          have hLB : LB w w1 g6 g7 g9 #[.int .i64 t.lo, .int .i64 t.hi, .slice (some ⟨b8, o8, none⟩) t.rows.length c2] #[.int .i64 s.addr, .int .i64 s.ctx, .int .i64 s.stmt, .bool s.mark] #[.int .i64 r.addr, .int .i64 r.ctx, .int .i64 r.stmt, .bool r.mark] u4 c5 wj := ⟨hG7', hG6', hG9, hO8, hX8, hX81⟩
          clear hG7' hG6' hG9 hO8 hX8 hX81 hG6 hG7
          have HSS := Lib.hid hSs
          have HSR := Lib.hid hSr
          obtain ⟨a1, a2, a3⟩ := hSs
          obtain ⟨b1, b2, b3⟩ := hSr
          obtain ⟨up, hup⟩ : ∃ up, up = r.addr - s.addr := ⟨_, rfl⟩
          obtain ⟨hf, hhf⟩ : ∃ hf, hf = up / 2 := ⟨_, rfl⟩
          have w1' : IntKind.i64.wrap (r.addr - s.addr) = up := by rw [IntKind.wrap_i64]; omega
          have w2' : Int.tdiv up 2 = hf := by rw [Int.tdiv_eq_ediv_of_nonneg (by omega)]; omega
          have w3' : IntKind.i64.wrap hf = hf := by rw [IntKind.wrap_i64]; omega
          have hbu : 0 ≤ up ∧ up ≤ 1048576 := by omega
          have hbh : 0 ≤ hf ∧ hf ≤ 1048576 ∧ 0 ≤ up - hf ∧ up - hf ≤ 1048576 := by omega
          obtain ⟨mo, hmo⟩ : ∃ mo, mo = r.stmt - s.stmt := ⟨_, rfl⟩
          obtain ⟨rs, hrs⟩ : ∃ rs, rs = up - hf := ⟨_, rfl⟩
          have w4' : IntKind.i64.wrap (r.stmt - s.stmt) = mo := by rw [IntKind.wrap_i64]; omega
          have w5' : IntKind.i64.wrap (up - hf) = rs := by rw [IntKind.wrap_i64]; omega
          have hbm : -10000 ≤ mo ∧ mo ≤ 10000 := by omega
          have hbr : 0 ≤ rs ∧ rs ≤ 1048576 := by omega
          have HMO := Lib.hid hmo
          have HRSV := Lib.hid hrs
          clear hmo hrs
          have HUP := Lib.hid hup
          have HHF := Lib.hid hhf
          clear hup hhf
          obtain ⟨r0, r1, r2, r3⟩ := blkR hLB.row
          obtain ⟨s0, s1, s2, s3⟩ := blkR hLB.sta
          go_upto_region 12 with fail
          have hA := (Ext.refl wj).alloc (.cells #[.int .u8 1] 5)
          have hin : InB (wj.alloc (.cells #[.int .u8 1] 5)) (.slice (some ⟨wj.heap.size, 0, none⟩) 1 1) [1] := ⟨_, 1, rfl, Nat.le_refl _, Rd_blk (heap_alloc_new _ _)⟩
          have hLA := hLB.aside hA
          have hszA := hLA.ext1.size
          have hcb : c5.length ≤ 30000 := by omega
          have lu1 := uintB_len (v := hf) (by omega)
          have lu2 := uintB_len (v := r.ctx) (by omega)
          have lu3 := leb_len10 (zig_lt (v := mo) (by omega) (by omega))
          have lu4 := uintB_len (v := rs) (by omega)
          clear hcl4 hrN hN2 hcl hLB
          go_wp2_with (at_builtin; go_must (refine wpList_appendV elem_u8 (fun _ => rfl) rfl (.tmp 48) (.tmp 49) rfl w1.heap.size _ c5 rfl hLA.own _ [1] rfl hin (by simp only [List.length_cons, List.length_nil]; omega) (by omega) hszA (Hold.out ?_)))
          refine Hold.mk fun v9 w9 ho9 hg9 => ?_
          have hL9 := hLA.put hx1 ho9 hg9
          clear hLA hin hszA hA ho9 hg9 r0 r1 r2 r3 s0 s1 s2 s3
          go_wp2_with fail
          refine (refAppendUint_any v9 _ hf w9 hL9.own.inV (by rw [List.length_append]; simp only [List.length_cons, List.length_nil]; omega) (by omega)).mono ?_
          rintro en w10 ⟨v6, rfl, ho10, hx10⟩
          have hLB := hL9.call ho10 hx10
          obtain ⟨c6, hc6⟩ : ∃ c, c = (c5 ++ [1]) ++ uintB hf := ⟨_, rfl⟩
          have lc6 : c6.length ≤ c5.length + 11 := by rw [hc6, List.length_append, List.length_append]; simp only [List.length_cons, List.length_nil]; omega
          rw [← hc6] at hLB
          have Hc6 := Lib.hid hc6
          clear hc6 hL9 ho10 hx10
          obtain ⟨r0, r1, r2, r3⟩ := blkR hLB.row
          obtain ⟨s0, s1, s2, s3⟩ := blkR hLB.sta
          go_upto_region 13 with fail
          refine wp_region_Z #[true, true, true, true, true, true, false] v6.ownBlock 6 1 (by kernel_rfl) rfl ?_
          refine wpZ_v 0 (v6) rfl rfl (by kernel_rfl) (by kernel_rfl) (by kernel_rfl) (fun _ _ _ _ h => h) (by kernel_rfl) rfl (by rfl) (fun W' hW => by
            skip
            go_simp) ?_
          simp only [List.setIfInBounds_toArray, List.set_cons_zero, List.set_cons_succ]
          refine wpZ_v 3 (.pointer (some ⟨g9, 1, none⟩)) rfl rfl (by kernel_rfl) (by kernel_rfl) (by kernel_rfl) (fun _ _ _ _ h => h) (by kernel_rfl) rfl (by rfl) (fun W' hW => by
            skip
            go_simp) ?_
          simp only [List.setIfInBounds_toArray, List.set_cons_zero, List.set_cons_succ]
          refine wpZ_v 4 (.int .i64 r.ctx) rfl rfl (by kernel_rfl) (by kernel_rfl) (by kernel_rfl) (fun _ _ _ _ h => h) (by kernel_rfl) rfl (by rfl) (fun W' hW => by
            obtain ⟨q0, q1, q2, q3⟩ := blkR (blk_grown hLB.row (gtrans (((Ext.refl w10).drew).grownBy _) hW) (hLB.own.ne_blk hLB.row (by decide)).symm)
            go_simp) ?_
          simp only [List.setIfInBounds_toArray, List.set_cons_zero, List.set_cons_succ]
          refine wpZ_m 1 rfl rfl (by kernel_rfl) rfl (by rfl) fun W1 hW1 => ?_
          have hL1 := hLB.aside (((Ext.refl w10).drew).trans hW1)
          have hA := (Ext.refl W1).alloc (.cells #[.int .u8 2] 5)
          refine ⟨.slice (some ⟨W1.heap.size, 0, none⟩) 1 1, W1.alloc (.cells #[.int .u8 2] 5), by go_simp, hA.grownBy _, ?_⟩
          simp only [List.setIfInBounds_toArray, List.set_cons_zero, List.set_cons_succ]
          have hin : InB (W1.alloc (.cells #[.int .u8 2] 5)) (.slice (some ⟨W1.heap.size, 0, none⟩) 1 1) [2] := ⟨_, 1, rfl, Nat.le_refl _, Rd_blk (heap_alloc_new _ _)⟩
          have hL2 := hL1.aside hA
          clear hLB hL1 hW1 hA r0 r1 r2 r3 s0 s1 s2 s3
          generalize W1.alloc (.cells #[.int .u8 2] 5) = W2 at *
          generalize W1.heap.size = gn at *
          refine wpZ_appendV elem_u8 (fun _ => rfl) 2 (.tmp 53) (.tmp 54) w1.heap.size _ c6 _ [2] rfl rfl (by kernel_rfl) rfl rfl rfl rfl rfl hL2.own hin (by simp only [List.length_cons, List.length_nil]; omega) (by omega) hL2.ext1.size fun v9 W3 W4 hW3 ho9 hg9 => ?_
          simp only [List.setIfInBounds_toArray, List.set_cons_zero, List.set_cons_succ]
          have hL4 := (hL2.aside hW3).put hx1 ho9 hg9
          clear hL2 hin hW3 ho9 hg9
          refine wpZ_c 5 32 #[v9, .int .i64 r.ctx] rfl rfl (by kernel_rfl) rfl (by rfl) (fun W => by go_simp) ?_
          intro W5 hW5
          have hL5 := hL4.aside hW5
          refine (refAppendUint_any v9 _ r.ctx W5 hL5.own.inV (by rw [List.length_append]; simp only [List.length_cons, List.length_nil]; omega) (by omega)).mono ?_
          rintro en W6 ⟨v7, rfl, ho6, hx6⟩
          refine ⟨_, rfl, hx6.grownBy _, ?_⟩
          simp only [List.setIfInBounds_toArray, List.set_cons_zero, List.set_cons_succ]
          refine wpZ_end rfl fun W7 hW7 => tail_seq 6 rfl (by kernel_rfl) ?_
          refine wpList_run rfl _ (by go_simp; exact ⟨rfl, rfl⟩) ?_
          refine NoPanic.normal ?_
          have hLB := (hL5.call ho6 hx6).aside hW7
          obtain ⟨c7, hc7⟩ : ∃ c, c = (c6 ++ [2]) ++ uintB r.ctx := ⟨_, rfl⟩
          have lc7 : c7.length ≤ c6.length + 11 := by rw [hc7, List.length_append, List.length_append]; simp only [List.length_cons, List.length_nil]; omega
          rw [← hc7] at hLB
          have Hc7 := Lib.hid hc7
          clear hc7 hL4 hL5 ho6 hx6 hW5 hW7
          obtain ⟨r0, r1, r2, r3⟩ := blkR hLB.row
          obtain ⟨s0, s1, s2, s3⟩ := blkR hLB.sta
          go_upto_region 14 with fail
          refine wp_region_Z #[true, true, true, true, true, true, true, true, true, false] v7.ownBlock 9 1 (by kernel_rfl) rfl ?_
          refine wpZ_v 0 (v7) rfl rfl (by kernel_rfl) (by kernel_rfl) (by kernel_rfl) (fun _ _ _ _ h => h) (by kernel_rfl) rfl (by rfl) (fun W' hW => by
            skip
            go_simp) ?_
          simp only [List.setIfInBounds_toArray, List.set_cons_zero, List.set_cons_succ]
          refine wpZ_v 3 (.pointer (some ⟨g9, 2, none⟩)) rfl rfl (by kernel_rfl) (by kernel_rfl) (by kernel_rfl) (fun _ _ _ _ h => h) (by kernel_rfl) rfl (by rfl) (fun W' hW => by
            skip
            go_simp) ?_
          simp only [List.setIfInBounds_toArray, List.set_cons_zero, List.set_cons_succ]
          refine wpZ_v 4 (.int .i64 r.stmt) rfl rfl (by kernel_rfl) (by kernel_rfl) (by kernel_rfl) (fun _ _ _ _ h => h) (by kernel_rfl) rfl (by rfl) (fun W' hW => by
            obtain ⟨q0, q1, q2, q3⟩ := blkR (blk_grown hLB.row (gtrans (((Ext.refl W7).drew).grownBy _) hW) (hLB.own.ne_blk hLB.row (by decide)).symm)
            go_simp) ?_
          simp only [List.setIfInBounds_toArray, List.set_cons_zero, List.set_cons_succ]
          refine wpZ_v 5 (.pointer (some ⟨g7, 2, none⟩)) rfl rfl (by kernel_rfl) (by kernel_rfl) (by kernel_rfl) (fun _ _ _ _ h => h) (by kernel_rfl) rfl (by rfl) (fun W' hW => by
            skip
            go_simp) ?_
          simp only [List.setIfInBounds_toArray, List.set_cons_zero, List.set_cons_succ]
          refine wpZ_v 6 (.int .i64 s.stmt) rfl rfl (by kernel_rfl) (by kernel_rfl) (by kernel_rfl) (fun _ _ _ _ h => h) (by kernel_rfl) rfl (by rfl) (fun W' hW => by
            obtain ⟨q0, q1, q2, q3⟩ := blkR (blk_grown hLB.sta (gtrans (((Ext.refl W7).drew).grownBy _) hW) (hLB.own.ne_blk hLB.sta (by decide)).symm)
            go_simp) ?_
          simp only [List.setIfInBounds_toArray, List.set_cons_zero, List.set_cons_succ]
          refine wpZ_v 7 (.int .i64 mo) rfl rfl (by kernel_rfl) (by kernel_rfl) (by kernel_rfl) (fun _ _ _ _ h => h) (by kernel_rfl) rfl (by rfl) (fun W' hW => by
            skip
            go_simp) ?_
          simp only [List.setIfInBounds_toArray, List.set_cons_zero, List.set_cons_succ]
          refine wpZ_m 1 rfl rfl (by kernel_rfl) rfl (by rfl) fun W1 hW1 => ?_
          have hL1 := hLB.aside (((Ext.refl W7).drew).trans hW1)
          have hA := (Ext.refl W1).alloc (.cells #[.int .u8 3] 5)
          refine ⟨.slice (some ⟨W1.heap.size, 0, none⟩) 1 1, W1.alloc (.cells #[.int .u8 3] 5), by go_simp, hA.grownBy _, ?_⟩
          simp only [List.setIfInBounds_toArray, List.set_cons_zero, List.set_cons_succ]
          have hin : InB (W1.alloc (.cells #[.int .u8 3] 5)) (.slice (some ⟨W1.heap.size, 0, none⟩) 1 1) [3] := ⟨_, 1, rfl, Nat.le_refl _, Rd_blk (heap_alloc_new _ _)⟩
          have hL2 := hL1.aside hA
          clear hLB hL1 hW1 hA r0 r1 r2 r3 s0 s1 s2 s3
          generalize W1.alloc (.cells #[.int .u8 3] 5) = W2 at *
          generalize W1.heap.size = gn at *
          refine wpZ_appendV elem_u8 (fun _ => rfl) 2 (.tmp 59) (.tmp 60) w1.heap.size _ c7 _ [3] rfl rfl (by kernel_rfl) rfl rfl rfl rfl rfl hL2.own hin (by simp only [List.length_cons, List.length_nil]; omega) (by omega) hL2.ext1.size fun v9 W3 W4 hW3 ho9 hg9 => ?_
          simp only [List.setIfInBounds_toArray, List.set_cons_zero, List.set_cons_succ]
          have hL4 := (hL2.aside hW3).put hx1 ho9 hg9
          clear hL2 hin hW3 ho9 hg9
          refine wpZ_c 8 33 #[v9, .int .i64 mo] rfl rfl (by kernel_rfl) rfl (by rfl) (fun W => by go_simp) ?_
          intro W5 hW5
          have hL5 := hL4.aside hW5
          refine (refAppendInt_any v9 _ mo W5 hL5.own.inV (by rw [List.length_append]; simp only [List.length_cons, List.length_nil]; omega) (by omega) (by omega)).mono ?_
          rintro en W6 ⟨v8, rfl, ho6, hx6⟩
          refine ⟨_, rfl, hx6.grownBy _, ?_⟩
          simp only [List.setIfInBounds_toArray, List.set_cons_zero, List.set_cons_succ]
          refine wpZ_end rfl fun W7 hW7 => tail_seq 9 rfl (by kernel_rfl) ?_
          refine wpList_run rfl _ (by go_simp; exact ⟨rfl, rfl⟩) ?_
          refine NoPanic.normal ?_
          have hLB := (hL5.call ho6 hx6).aside hW7
          obtain ⟨c8, hc8⟩ : ∃ c, c = (c7 ++ [3]) ++ leb (zig mo) := ⟨_, rfl⟩
          have lc8 : c8.length ≤ c7.length + 11 := by rw [hc8, List.length_append, List.length_append]; simp only [List.length_cons, List.length_nil]; omega
          rw [← hc8] at hLB
          have Hc8 := Lib.hid hc8
          clear hc8 hL4 hL5 ho6 hx6 hW5 hW7
          obtain ⟨r0, r1, r2, r3⟩ := blkR hLB.row
          obtain ⟨s0, s1, s2, s3⟩ := blkR hLB.sta
          go_upto_region 15 with fail
          refine wp_region_Z #[true, true, true, true, true, true, true, true, true, true, true, false] v8.ownBlock 11 1 (by kernel_rfl) rfl ?_
          refine wpZ_v 0 (v8) rfl rfl (by kernel_rfl) (by kernel_rfl) (by kernel_rfl) (fun _ _ _ _ h => h) (by kernel_rfl) rfl (by rfl) (fun W' hW => by
            skip
            go_simp) ?_
          simp only [List.setIfInBounds_toArray, List.set_cons_zero, List.set_cons_succ]
          refine wpZ_v 3 (.pointer (some ⟨g9, 0, none⟩)) rfl rfl (by kernel_rfl) (by kernel_rfl) (by kernel_rfl) (fun _ _ _ _ h => h) (by kernel_rfl) rfl (by rfl) (fun W' hW => by
            skip
            go_simp) ?_
          simp only [List.setIfInBounds_toArray, List.set_cons_zero, List.set_cons_succ]
          refine wpZ_v 4 (.int .i64 r.addr) rfl rfl (by kernel_rfl) (by kernel_rfl) (by kernel_rfl) (fun _ _ _ _ h => h) (by kernel_rfl) rfl (by rfl) (fun W' hW => by
            obtain ⟨q0, q1, q2, q3⟩ := blkR (blk_grown hLB.row (gtrans (((Ext.refl W7).drew).grownBy _) hW) (hLB.own.ne_blk hLB.row (by decide)).symm)
            go_simp) ?_
          simp only [List.setIfInBounds_toArray, List.set_cons_zero, List.set_cons_succ]
          refine wpZ_v 5 (.pointer (some ⟨g7, 0, none⟩)) rfl rfl (by kernel_rfl) (by kernel_rfl) (by kernel_rfl) (fun _ _ _ _ h => h) (by kernel_rfl) rfl (by rfl) (fun W' hW => by
            skip
            go_simp) ?_
          simp only [List.setIfInBounds_toArray, List.set_cons_zero, List.set_cons_succ]
          refine wpZ_v 6 (.int .i64 s.addr) rfl rfl (by kernel_rfl) (by kernel_rfl) (by kernel_rfl) (fun _ _ _ _ h => h) (by kernel_rfl) rfl (by rfl) (fun W' hW => by
            obtain ⟨q0, q1, q2, q3⟩ := blkR (blk_grown hLB.sta (gtrans (((Ext.refl W7).drew).grownBy _) hW) (hLB.own.ne_blk hLB.sta (by decide)).symm)
            go_simp) ?_
          simp only [List.setIfInBounds_toArray, List.set_cons_zero, List.set_cons_succ]
          refine wpZ_v 7 (.int .i64 up) rfl rfl (by kernel_rfl) (by kernel_rfl) (by kernel_rfl) (fun _ _ _ _ h => h) (by kernel_rfl) rfl (by rfl) (fun W' hW => by
            skip
            go_simp) ?_
          simp only [List.setIfInBounds_toArray, List.set_cons_zero, List.set_cons_succ]
          refine wpZ_v 8 (.int .i64 hf) rfl rfl (by kernel_rfl) (by kernel_rfl) (by kernel_rfl) (fun _ _ _ _ h => h) (by kernel_rfl) rfl (by rfl) (fun W' hW => by
            skip
            go_simp) ?_
          simp only [List.setIfInBounds_toArray, List.set_cons_zero, List.set_cons_succ]
          refine wpZ_v 9 (.int .i64 rs) rfl rfl (by kernel_rfl) (by kernel_rfl) (by kernel_rfl) (fun _ _ _ _ h => h) (by kernel_rfl) rfl (by rfl) (fun W' hW => by
            skip
            go_simp) ?_
          simp only [List.setIfInBounds_toArray, List.set_cons_zero, List.set_cons_succ]
          refine wpZ_m 1 rfl rfl (by kernel_rfl) rfl (by rfl) fun W1 hW1 => ?_
          have hL1 := hLB.aside (((Ext.refl W7).drew).trans hW1)
          have hA := (Ext.refl W1).alloc (.cells #[.int .u8 1] 5)
          refine ⟨.slice (some ⟨W1.heap.size, 0, none⟩) 1 1, W1.alloc (.cells #[.int .u8 1] 5), by go_simp, hA.grownBy _, ?_⟩
          simp only [List.setIfInBounds_toArray, List.set_cons_zero, List.set_cons_succ]
          have hin : InB (W1.alloc (.cells #[.int .u8 1] 5)) (.slice (some ⟨W1.heap.size, 0, none⟩) 1 1) [1] := ⟨_, 1, rfl, Nat.le_refl _, Rd_blk (heap_alloc_new _ _)⟩
          have hL2 := hL1.aside hA
          clear hLB hL1 hW1 hA r0 r1 r2 r3 s0 s1 s2 s3
          generalize W1.alloc (.cells #[.int .u8 1] 5) = W2 at *
          generalize W1.heap.size = gn at *
          refine wpZ_appendV elem_u8 (fun _ => rfl) 2 (.tmp 68) (.tmp 69) w1.heap.size _ c8 _ [1] rfl rfl (by kernel_rfl) rfl rfl rfl rfl rfl hL2.own hin (by simp only [List.length_cons, List.length_nil]; omega) (by omega) hL2.ext1.size fun v9 W3 W4 hW3 ho9 hg9 => ?_
          simp only [List.setIfInBounds_toArray, List.set_cons_zero, List.set_cons_succ]
          have hL4 := (hL2.aside hW3).put hx1 ho9 hg9
          clear hL2 hin hW3 ho9 hg9
          refine wpZ_c 10 32 #[v9, .int .i64 rs] rfl rfl (by kernel_rfl) rfl (by rfl) (fun W => by go_simp) ?_
          intro W5 hW5
          have hL5 := hL4.aside hW5
          refine (refAppendUint_any v9 _ rs W5 hL5.own.inV (by rw [List.length_append]; simp only [List.length_cons, List.length_nil]; omega) (by omega)).mono ?_
          rintro en W6 ⟨v10, rfl, ho6, hx6⟩
          refine ⟨_, rfl, hx6.grownBy _, ?_⟩
          simp only [List.setIfInBounds_toArray, List.set_cons_zero, List.set_cons_succ]
          refine wpZ_end rfl fun W7 hW7 => tail_seq 11 rfl (by kernel_rfl) ?_
          refine wpList_run rfl _ (by go_simp; exact ⟨rfl, rfl⟩) ?_
          refine NoPanic.normal ?_
          have hLB := (hL5.call ho6 hx6).aside hW7
          obtain ⟨c9, hc9⟩ : ∃ c, c = (c8 ++ [1]) ++ uintB rs := ⟨_, rfl⟩
          have lc9 : c9.length ≤ c8.length + 11 := by rw [hc9, List.length_append, List.length_append]; simp only [List.length_cons, List.length_nil]; omega
          rw [← hc9] at hLB
          have Hc9 := Lib.hid hc9
          clear hc9 hL4 hL5 ho6 hx6 hW5 hW7
          obtain ⟨r0, r1, r2, r3⟩ := blkR hLB.row
          obtain ⟨s0, s1, s2, s3⟩ := blkR hLB.sta
          obtain ⟨ob, hob⟩ : ∃ ob : UInt8, ob = if r.mark = true then 5 else 4 := ⟨_, rfl⟩
          have HOB := Lib.hid hob
          clear hob
          go_upto_region 17 with fail
          go_upto_if 80 with fail
          go_cut [11] (fun s wx => s = .int .u8 (ob.toNat : Int) ∧ wx = W7)
          case first =>
            by_cases hm : r.mark = true
            · have HV5 : Hid ((5 : Int) = (ob.toNat : Int)) := Lib.hid (by rw [HOB.out, if_pos hm]; rfl)
              rw [hm]
              go_wp2_with fail
              go_meet
              exact ⟨by rw [← HV5.out], rfl⟩
            · have HV4 : Hid ((4 : Int) = (ob.toNat : Int)) := Lib.hid (by rw [HOB.out, if_neg hm]; rfl)
              replace hm : r.mark = false := by simpa using hm
              rw [hm]
              go_wp2_with fail
              go_meet
              exact ⟨by rw [← HV4.out], rfl⟩
          obtain ⟨rfl, rfl⟩ := hcut
          obtain ⟨W8, rfl⟩ : ∃ W : World, W = wc := ⟨_, rfl⟩
          clear r0 r1 r2 r3 s0 s1 s2 s3
          have hA := (Ext.refl W8).alloc (.cells #[.int .u8 (ob.toNat : Int)] 5)
          have hin : InB (W8.alloc (.cells #[.int .u8 (ob.toNat : Int)] 5)) (.slice (some ⟨W8.heap.size, 0, none⟩) 1 1) [ob] := ⟨_, 1, rfl, Nat.le_refl _, Rd_blk (heap_alloc_new _ _)⟩
          have hLA := hLB.aside hA
          have hszA := hLA.ext1.size
          go_wp2_with (at_builtin; go_must (refine wpList_appendV elem_u8 (fun _ => rfl) rfl (.tmp 81) (.tmp 83) rfl w1.heap.size _ c9 rfl hLA.own _ [ob] rfl hin (by simp only [List.length_cons, List.length_nil]; omega) (by omega) hszA (Hold.out ?_)))
          refine Hold.mk fun v9 w9 ho9 hg9 => ?_
          have hL9 := hLA.put hx1 ho9 hg9
          clear hLA hin hszA hA ho9 hg9 hLB
          have hldr := run_loadAt_blk (P := Try.prog) w9 g9 53 53 _ (0, 0) _ hL9.row Try.underlying53 rfl rw_size
          have hstr := run_storeAt_blk (P := Try.prog) w9 g7 53 53 _ #[.int .i64 r.addr, .int .i64 r.ctx, .int .i64 r.stmt, .bool r.mark] hL9.sta rw_size rfl (by simp [Value.oneCell'])
          go_upto_region 21 with first | refine wpList_load_run rfl 53 (.tmp 9) rfl _ _ rfl hldr ?_ | refine wpList_store_run rfl 53 (.tmp 7) (.tmp 85) rfl _ _ _ rfl rfl hstr ?_
          have hLF := hL9.sync hx1 hg79 hs7 #[.int .i64 r.addr, .int .i64 r.ctx, .int .i64 r.stmt, .bool r.mark]
          clear hldr hstr hL9
          generalize w9.setRow g7 #[.int .i64 r.addr, .int .i64 r.ctx, .int .i64 r.stmt, .bool r.mark] = wq at *
          have HCN : Hid (c9 ++ [ob] = cur4 ++ longsB (row0 t.lo) (t.rows.take (k + 1))) := Lib.hid (by
            rw [longB_cat HUP.out HHF.out HMO.out HRSV.out HOB.out Hc6.out Hc7.out Hc8.out Hc9.out, HTR.out, longsB_snoc, ← HS.out, ← List.append_assoc, ← HC5.out])
          have HLN : Hid (r = lastR (row0 t.lo) (t.rows.take (k + 1))) := Lib.hid (by rw [HTR.out, lastR_snoc])
          have hcN : (c9 ++ [ob]).length ≤ cur4.length + 60 * (k + 1) := by
            rw [List.length_append]
            simp only [List.length_cons, List.length_nil]
            omega
          simp only [Act.put, List.setIfInBounds_toArray, List.set_cons_zero, List.set_cons_succ]
          go_wp2_with fail
          go_roundw
          case rel => exact ⟨k + 1, r, _, by omega, by go_num, HLN, HCN, hcN, hLF.sta, hLF.tab, hLF.own, hLF.ext, hLF.ext1⟩
          case measure => simp [intOf]; omega
        · have hik : ¬ (k : Int) < (t.rows.length : Int) := by omega
          have hkk : k = t.rows.length := by omega
          have hA := (Ext.refl wi).alloc (.cells #[.int .u8 0] 5)
          have hin : InB (wi.alloc (.cells #[.int .u8 0] 5)) (.slice (some ⟨wi.heap.size, 0, none⟩) 1 1) [0] := ⟨_, 1, rfl, Nat.le_refl _, Rd_blk (heap_alloc_new _ _)⟩
          have hszA := (hX71.trans hA).size
          go_wp2_with (at_builtin; go_must (refine wpList_appendV elem_u8 (fun _ => rfl) rfl (.tmp 87) (.tmp 88) rfl w1.heap.size _ c5 rfl (hO7.ext hA) _ [0] rfl hin (by simp only [List.length_cons, List.length_nil]; omega) (by omega) hszA (Hold.out ?_)))
          refine Hold.mk fun v9 w9 ho9 hg9 => ?_
          have hX9 : Ext w1 w9 := hg9.ext (hX71.trans hA) hO7.ge
          go_wp2_with fail
          go_roundw
          case rel =>
            refine ⟨j + 1, _, by omega, by go_num, Lib.hid ?_, ?_, ho9, hx1.trans hX9, hX9⟩
            · rw [HC5.out, HC4.out, HC.out, HTK.out, longTs_snoc, hkk, List.take_length]
              simp [longT]
            · rw [HSU.out]
              simp only [List.length_append, List.length_cons, List.length_nil]
              omega
          case measure => simp [intOf]; omega
    · have hij : ¬ (j : Int) < (l.length : Int) := by omega
      have hjl : j = l.length := by omega
      have HB : Hid (cur = uintB (longs l).length ++ (longs l).flatMap prgB) := Lib.hid (by rw [HC.out, hjl, List.take_length, longs_B]; simp [longTs, longs])
      have hcl2 : cur.length ≤ 60000 := by
        have := rowsN_take_le l j
        have := HN.out
        omega
      obtain ⟨A4, c4, hv4, _, _⟩ := hO.inV
      subst hv4
      go_wp2_with fail
      refine (Decode_any _ cur (longs l) wo hO.inV HB.out (longs_ok HR.out) (by rw [longs_fst]; exact HR.out) hcl2).mono ?_
      rintro en w5 ⟨y5, rfl, hT5, hx5⟩
      rw [longs_fst] at hT5
      obtain ⟨A5, c5, rfl⟩ := hT5.in_.form
      go_wp2_with fail
      refine (tabsSelf_any _ _ l w5 hT5.in_ (HT.out.in_.ext (hX1.trans hx5)) (by omega) (fun t ht => by have := (HR.out.mem ht).2.2; omega)).mono ?_
      rintro en w6 ⟨rfl, hx6⟩
      go_wp2_with fail
      refine (Encode_any l _ w6 (HT.out.in_.ext (hX1.trans (hx5.trans hx6))) (fun t ht => HR.out.I ht) (by omega)).mono ?_
      rintro en w7 ⟨y7, rfl, ho7, hx7⟩
      obtain ⟨A7, c7, hv7, _, _⟩ := ho7.inV
      obtain ⟨n7, hn7⟩ : ∃ n, n = (EncL l).length := ⟨_, rfl⟩
      have hle7 : n7 ≤ cur.length := by
        rw [hn7, HB.out]
        unfold EncL
        rw [if_pos HR.out]
        split
        · have h := encTabs_short HR.out
          rw [show (longs l).length = l.length by simp [longs]]
          exact h
        · simp
      have d7 : decide ((n7 : Int) ≤ (cur.length : Int)) = true := by simp; omega
      rw [← hn7] at hv7
      subst hv7
      clear hn7 ho7 hT5
      go_wp2_with fail
      refine (known18_any w7).mono ?_
      rintro en w8 ⟨rfl, hx8⟩
      go_wp2_with fail
      go_ret
      exact ⟨rfl, hX.trans (hx5.trans (hx6.trans (hx7.trans hx8)))⟩
end Go.Proofs.Ytokmbdeafjmcjaa
