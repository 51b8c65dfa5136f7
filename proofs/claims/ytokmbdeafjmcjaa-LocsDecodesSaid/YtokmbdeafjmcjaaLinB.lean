/- What may be encoded: the walk of rightRows. -/
import Derived.Test.YtokmbdeafjmcjaaLinA
namespace Go.Proofs.Ytokmbdeafjmcjaa
open Go.RowKit
set_option linter.unusedVariables false

set_option maxHeartbeats 4000000 in
set_option maxRecDepth 100000 in
theorem rightRows_any (t : LTab) (y : Value) (w : World) (hy : InR lrowCells w y t.rows) (hI : t.I) :
    Calls Try.prog 55 #[.agg #[.int .i64 t.lo, .int .i64 t.hi, y]] w (Tells (okRows t.lo t.hi t.rows) w) := by
  obtain ⟨A, c, rfl, _, _⟩ := id hy
  have hlen := hI.len
  have hlo := hI.lo
  have hhi := hI.hi
  go_enter Try.func55, Try.ntmps55
  go_upto_region 1 with fail
  obtain ⟨W, hW, hE, hB⟩ : ∃ W, W = w.alloc (.cells #[.int .i64 t.lo, .int .i64 t.hi, .slice A t.rows.length c] 46) ∧ Ext w W ∧ W.heap[w.heap.size]? = some (.cells #[.int .i64 t.lo, .int .i64 t.hi, .slice A t.rows.length c] 46 (0, 0)) := ⟨_, rfl, (Ext.refl w).alloc _, heap_alloc_new w _⟩
  rw [← hW]
  clear hW
  obtain ⟨q0, q1, q2⟩ := blkT hB
  go_wp2_with fail
  go_loopw [3, 11] (fun v i wr => ∃ (j : Nat) (next : Int), j ≤ t.rows.length ∧ i = .int .i64 (j : Int) ∧ v = .int .i64 next ∧ (-9223372036854775808 ≤ next ∧ next ≤ 9223372036854775807) ∧ Hid (okRows t.lo t.hi t.rows ↔ okRows next t.hi (t.rows.drop j)) ∧ Ext W wr) (fun _ i _ => t.rows.length - (intOf i).toNat)
  case atStart => exact ⟨0, t.lo, by omega, rfl, rfl, hlo, Lib.hid (by rw [List.drop_zero]), Ext.refl _⟩
  case round =>
    obtain ⟨j, next, hj, rfl, rfl, hn, HR, hX⟩ := hrel
    obtain ⟨wo, rfl⟩ : ∃ wo : World, wo = wr := ⟨_, rfl⟩
    by_cases hlt : j < t.rows.length
    · have hij : (j : Int) < (t.rows.length : Int) := by omega
      obtain ⟨bb, oo, rfl, hra⟩ := (hy.ext (hE.trans hX)).at_ (k := 4) (fun _ _ => rfl) (by omega) hlt
      have HD := Lib.hid (List.drop_eq_getElem_cons hlt)
      generalize t.rows[j] = r at *
      have hld := lrow_load hra
      have hp0 := hX.cell q0
      have hp1 := hX.cell q1
      obtain ⟨hst, hG, hXG⟩ := box_new (P := Try.prog) wo 53 #[.int .i64 0, .int .i64 0, .int .i64 0, .bool false] #[.int .i64 r.addr, .int .i64 r.ctx, .int .i64 r.stmt, .bool r.mark] rw_size rfl (by simp [Value.oneCell'])
      go_upto_region 5 with first | refine wpList_load_run rfl 53 (.tmp 13) rfl _ _ rfl hld ?_ | refine wpList_store_run rfl 53 (.tmp 5) (.tmp 14) rfl _ _ _ rfl rfl hst ?_
      obtain ⟨g, hg⟩ : ∃ g, g = wo.heap.size := ⟨_, rfl⟩
      rw [← hg] at hG hXG ⊢
      generalize (wo.alloc (.cells #[.int .i64 0, .int .i64 0, .int .i64 0, .bool false] 53)).setRow g #[.int .i64 r.addr, .int .i64 r.ctx, .int .i64 r.stmt, .bool r.mark] = wg at *
      dsimp only [Act.put]
      obtain ⟨r0, r1, r2, r3⟩ := blkR hG
      have h0 := hXG.cell hp0
      have h1 := hXG.cell hp1
      have hXX := hX.trans hXG
      clear hst hld hra hp0 hp1 hG hXG hX hg
      go_cut [45] (fun s wx => ∃ d : Bool, s = .bool d ∧ (d = false ↔ (next ≤ r.addr ∧ r.addr < t.hi ∧ 0 ≤ r.ctx ∧ r.ctx ≤ 255 ∧ -1 ≤ r.stmt ∧ r.stmt ≤ 9999)) ∧ wx = wg)
      case first =>
        by_cases e1 : r.addr < next
        case pos =>
          have t1 : decide (r.addr < next) = true := by first | (simpa using e1) | (simp; omega)
          go_wp2_with fail
          go_meet
          exact ⟨true, rfl, ⟨fun h => (by cases h), fun h => (by omega)⟩, rfl⟩
        have t1 : decide (r.addr < next) = false := by first | (simpa using e1) | (simp; omega)
        by_cases e2 : t.hi ≤ r.addr
        case pos =>
          have t2 : decide (t.hi ≤ r.addr) = true := by first | (simpa using e2) | (simp; omega)
          go_wp2_with fail
          go_meet
          exact ⟨true, rfl, ⟨fun h => (by cases h), fun h => (by omega)⟩, rfl⟩
        have t2 : decide (t.hi ≤ r.addr) = false := by first | (simpa using e2) | (simp; omega)
        by_cases e3 : r.ctx < 0
        case pos =>
          have t3 : decide (r.ctx < 0) = true := by first | (simpa using e3) | (simp; omega)
          go_wp2_with fail
          go_meet
          exact ⟨true, rfl, ⟨fun h => (by cases h), fun h => (by omega)⟩, rfl⟩
        have t3 : decide (r.ctx < 0) = false := by first | (simpa using e3) | (simp; omega)
        by_cases e4 : 255 < r.ctx
        case pos =>
          have t4 : decide (255 < r.ctx) = true := by first | (simpa using e4) | (simp; omega)
          go_wp2_with fail
          go_meet
          exact ⟨true, rfl, ⟨fun h => (by cases h), fun h => (by omega)⟩, rfl⟩
        have t4 : decide (255 < r.ctx) = false := by first | (simpa using e4) | (simp; omega)
        by_cases e5 : r.stmt < -1
        case pos =>
          have t5 : decide (r.stmt < -1) = true := by first | (simpa using e5) | (simp; omega)
          go_wp2_with fail
          go_meet
          exact ⟨true, rfl, ⟨fun h => (by cases h), fun h => (by omega)⟩, rfl⟩
        have t5 : decide (r.stmt < -1) = false := by first | (simpa using e5) | (simp; omega)
        by_cases e6 : 9999 < r.stmt
        case pos =>
          have t6 : decide (9999 < r.stmt) = true := by first | (simpa using e6) | (simp; omega)
          go_wp2_with fail
          go_meet
          exact ⟨true, rfl, ⟨fun h => (by cases h), fun h => (by omega)⟩, rfl⟩
        have t6 : decide (9999 < r.stmt) = false := by first | (simpa using e6) | (simp; omega)
        go_wp2_with fail
        go_meet
        exact ⟨false, rfl, ⟨fun _ => (by omega), fun _ => rfl⟩, rfl⟩
      obtain ⟨d, rfl, hd, rfl⟩ := hcut
      cases d with
      | true =>
        go_wp2_with fail
        go_ret
        refine Tells.no (fun h => ?_) (hE.trans hXX)
        have h2 := HR.out.1 h
        rw [HD.out] at h2
        have := hd.2 h2.1.1
        cases this
      | false =>
        have hok := hd.1 rfl
        clear hd
        go_upto_region 7 with fail
        go_cut [57] (fun s wx => ∃ d : Bool, s = .bool d ∧ (d = false ↔ (r.stmt = -1 → r.ctx = 0 ∧ r.mark = false)) ∧ wx = wc)
        case first =>
          by_cases e1 : r.stmt = -1
          case neg =>
            have t1 : (r.stmt == -1) = false := by simpa using e1
            go_wp2_with fail
            go_meet
            exact ⟨false, rfl, ⟨fun _ h => absurd h e1, fun _ => rfl⟩, rfl⟩
          have t1 : (r.stmt == -1) = true := by simpa using e1
          have HE1 := Lib.hid e1
          clear e1
          by_cases e2 : r.ctx = 0
          case neg =>
            have t2 : (r.ctx != 0) = true := by simpa using e2
            have HE2 := Lib.hid e2
            clear e2
            go_wp2_with fail
            go_meet
            exact ⟨true, rfl, ⟨fun h => (by cases h), fun h => absurd (h HE1.out).1 HE2.out⟩, rfl⟩
          have t2 : (r.ctx != 0) = false := by simpa using e2
          have HE2 := Lib.hid e2
          clear e2
          go_wp2_with fail
          go_meet
          refine ⟨r.mark, rfl, ⟨fun h _ => ⟨HE2.out, h⟩, fun h => (h HE1.out).2⟩, rfl⟩
        obtain ⟨d, rfl, hd, rfl⟩ := hcut
        cases d with
        | true =>
          go_wp2_with fail
          go_ret
          refine Tells.no (fun h => ?_) (hE.trans hXX)
          have h2 := HR.out.1 h
          rw [HD.out] at h2
          have := hd.2 h2.1.2
          cases this
        | false =>
          have HOK : Hid (okRows t.lo t.hi t.rows ↔ okRows (r.addr + 1) t.hi (t.rows.drop (j + 1))) := Lib.hid (by
            rw [HR.out, HD.out]
            exact ⟨fun h => h.2, fun h => ⟨⟨hok, hd.1 rfl⟩, h⟩⟩)
          have hwr : IntKind.i64.wrap (r.addr + 1) = r.addr + 1 := by rw [IntKind.wrap_i64]; omega
          clear hd HR HD
          go_wp2_with fail
          go_roundw
          case rel => exact ⟨j + 1, r.addr + 1, by omega, by first | (with_reducible rfl) | go_num, by first | (with_reducible rfl) | go_num, by omega, HOK, hXX⟩
          case measure => simp [intOf]; omega
    · have hij : ¬ (j : Int) < (t.rows.length : Int) := by omega
      have HT : Hid (okRows t.lo t.hi t.rows) := Lib.hid (by rw [HR.out, List.drop_of_length_le (by omega)]; trivial)
      go_wp2_with fail
      go_ret
      exact Tells.yes HT.out (hE.trans hX)
end Go.Proofs.Ytokmbdeafjmcjaa
