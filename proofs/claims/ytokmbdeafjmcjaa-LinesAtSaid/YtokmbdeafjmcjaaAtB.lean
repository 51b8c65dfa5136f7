/- The row at an address, as the specification says it: the walk of ref.At. -/
import Derived.Test.YtokmbdeafjmcjaaAtA
namespace Go.Proofs.Ytokmbdeafjmcjaa
open Go.RowKit
set_option linter.unusedVariables false

def lastLe (addr : Int) (l : List LRow) : LRow × Bool := match l.reverse.find? (fun r => decide (r.addr ≤ addr)) with
  | some r => (r, true)
  | none => (zeroR, false)
theorem atL_eq (t : LTab) (addr : Int) : atL t addr = if addr < t.lo ∨ t.hi ≤ addr then (zeroR, false) else lastLe addr t.rows := rfl
theorem lastLe_snoc (addr : Int) (l : List LRow) (r : LRow) : lastLe addr (l ++ [r]) = if r.addr ≤ addr then (r, true) else lastLe addr l := by
  unfold lastLe
  rw [List.reverse_append]
  simp only [List.reverse_cons, List.reverse_nil, List.nil_append, List.cons_append, List.find?_cons]
  by_cases h : r.addr ≤ addr
  · rw [if_pos h]
    simp [h]
  · rw [if_neg h]
    simp [h]
set_option maxHeartbeats 40000000 in
set_option maxRecDepth 100000 in
theorem refAt_any (t : LTab) (y : Value) (addr : Int) (w : World) (hy : InR lrowCells w y t.rows) (hI : t.I) :
    Calls Try.prog 37 #[.agg #[.int .i64 t.lo, .int .i64 t.hi, y], .int .i64 addr] w (AtPost t addr w) := by
  obtain ⟨A2, c2, rfl, _, _⟩ := id hy
  have hlen := hI.len
  go_enter Try.func37, Try.ntmps37
  go_upto_region 1 with fail
  have e1 := heap_alloc_new w (.cells #[.int .i64 t.lo, .int .i64 t.hi, .slice A2 t.rows.length c2] 46)
  have x1 := (Ext.refl w).alloc (.cells #[.int .i64 t.lo, .int .i64 t.hi, .slice A2 t.rows.length c2] 46)
  have z1 : (w.alloc (.cells #[.int .i64 t.lo, .int .i64 t.hi, .slice A2 t.rows.length c2] 46)).heap.size = w.heap.size + 1 := by simp
  generalize w.alloc (.cells #[.int .i64 t.lo, .int .i64 t.hi, .slice A2 t.rows.length c2] 46) = w1 at *
  rw [← z1]
  have e2 := heap_alloc_new w1 (.cells #[.int .i64 0, .int .i64 0, .int .i64 0, .bool false] 53)
  have x2 := (Ext.refl w1).alloc (.cells #[.int .i64 0, .int .i64 0, .int .i64 0, .bool false] 53)
  have z2 : (w1.alloc (.cells #[.int .i64 0, .int .i64 0, .int .i64 0, .bool false] 53)).heap.size = w1.heap.size + 1 := by simp
  generalize w1.alloc (.cells #[.int .i64 0, .int .i64 0, .int .i64 0, .bool false] 53) = w2 at *
  obtain ⟨g2, hg2⟩ : ∃ g, g = w.heap.size := ⟨_, rfl⟩
  obtain ⟨g4, hg4⟩ : ∃ g, g = w1.heap.size := ⟨_, rfl⟩
  rw [← hg2] at e1 ⊢
  rw [← hg4] at e2 ⊢
  have Z1 := Lib.hid z1
  have Z2 := Lib.hid z2
  have G2 := Lib.hid hg2
  have G4 := Lib.hid hg4
  clear z1 z2 hg2 hg4
  obtain ⟨hst, hB6, hXG⟩ := box_new (P := Try.prog) w2 53 #[.int .i64 0, .int .i64 0, .int .i64 0, .bool false] #[.int .i64 0, .int .i64 0, .int .i64 0, .bool false] rw_size rfl (by simp [Value.oneCell'])
  go_upto_region 2 with first | refine wpList_store_run rfl 53 (.tmp 6) (.tmp 10) rfl _ _ _ rfl rfl hst ?_
  obtain ⟨g6, hg6⟩ : ∃ g, g = w2.heap.size := ⟨_, rfl⟩
  rw [← hg6] at hB6 hXG ⊢
  have hg46 : g4 ≠ g6 := by have := Z2.out; have := G4.out; omega
  have hl4 : w.heap.size ≤ g4 := by have := Z1.out; have := G4.out; omega
  have hl6 : w.heap.size ≤ g6 := by have := Z1.out; have := Z2.out; omega
  generalize (w2.alloc (.cells #[.int .i64 0, .int .i64 0, .int .i64 0, .bool false] 53)).setRow g6 #[.int .i64 0, .int .i64 0, .int .i64 0, .bool false] = W0 at *
  have hB2 := (x2.trans hXG).heap e1
  have hB4 := hXG.heap e2
  have hX0 := x1.trans (x2.trans hXG)
  clear hst hXG e1 e2 x1 x2 hg6
  obtain ⟨q0, q1, q2⟩ := blkT hB2
  by_cases h1 : addr < t.lo
  case pos =>
    have d1 : decide (addr < t.lo) = true := by simpa using h1
    have hldr := run_loadAt_blk (P := Try.prog) W0 g6 53 53 _ (0, 0) _ hB6 Try.underlying53 rfl rw_size
    have hstr := run_storeAt_blk (P := Try.prog) W0 g4 53 53 _ #[.int .i64 0, .int .i64 0, .int .i64 0, .bool false] hB4 rw_size rfl (by simp [Value.oneCell'])
    go_wp2_with first | refine wpList_load_run rfl 53 (.tmp 6) rfl _ _ rfl hldr ?_ | refine wpList_store_run rfl 53 (.tmp 4) (.tmp 21) rfl _ _ _ rfl rfl hstr ?_
    have V4 : (W0.setRow g4 #[.int .i64 0, .int .i64 0, .int .i64 0, .bool false]).heap[g4]? = some (.cells #[.int .i64 0, .int .i64 0, .int .i64 0, .bool false] 53 (0, 0)) := setRow_heap _ _ _ _ _ _ hB4
    have hXV := hX0.grown (gsetRow W0 g4 #[.int .i64 0, .int .i64 0, .int .i64 0, .bool false]) (fun k e => by cases e; exact hl4)
    obtain ⟨k0, k1, k2, k3⟩ := blkR V4
    refine bodyPost_ret (v := .tuple #[.agg #[.int .i64 0, .int .i64 0, .int .i64 0, .bool false], .bool false]) (by simp [results, Try.results37, go_sem, k0, k1, k2, k3]) rfl ?_
    exact ⟨zeroR, false, rfl, by rw [atL_eq, if_pos (.inl h1)], hXV⟩
  have d1 : decide (addr < t.lo) = false := by simpa using h1
  by_cases h2 : t.hi ≤ addr
  case pos =>
    have d2 : decide (t.hi ≤ addr) = true := by simpa using h2
    have hldr := run_loadAt_blk (P := Try.prog) W0 g6 53 53 _ (0, 0) _ hB6 Try.underlying53 rfl rw_size
    have hstr := run_storeAt_blk (P := Try.prog) W0 g4 53 53 _ #[.int .i64 0, .int .i64 0, .int .i64 0, .bool false] hB4 rw_size rfl (by simp [Value.oneCell'])
    go_wp2_with first | refine wpList_load_run rfl 53 (.tmp 6) rfl _ _ rfl hldr ?_ | refine wpList_store_run rfl 53 (.tmp 4) (.tmp 21) rfl _ _ _ rfl rfl hstr ?_
    have V4 : (W0.setRow g4 #[.int .i64 0, .int .i64 0, .int .i64 0, .bool false]).heap[g4]? = some (.cells #[.int .i64 0, .int .i64 0, .int .i64 0, .bool false] 53 (0, 0)) := setRow_heap _ _ _ _ _ _ hB4
    have hXV := hX0.grown (gsetRow W0 g4 #[.int .i64 0, .int .i64 0, .int .i64 0, .bool false]) (fun k e => by cases e; exact hl4)
    obtain ⟨k0, k1, k2, k3⟩ := blkR V4
    refine bodyPost_ret (v := .tuple #[.agg #[.int .i64 0, .int .i64 0, .int .i64 0, .bool false], .bool false]) (by simp [results, Try.results37, go_sem, k0, k1, k2, k3]) rfl ?_
    exact ⟨zeroR, false, rfl, by rw [atL_eq, if_pos (.inr h2)], hXV⟩
  have d2 : decide (t.hi ≤ addr) = false := by simpa using h2
  have HAL : Hid (atL t addr = lastLe addr t.rows) := Lib.hid (by rw [atL_eq, if_neg (by omega)])
  go_upto_region 4 with fail
  clear h1 h2 d1 d2
  go_wp2_with fail
  go_loopw [25, 7] (fun i isv wr => ∃ (k : Nat) (s : LRow) (b : Bool), k ≤ t.rows.length ∧ i = .int .i64 (k : Int) ∧ isv = .bool b ∧ Hid ((s, b) = lastLe addr (t.rows.take k)) ∧ wr.heap[g6]? = some (.cells #[.int .i64 s.addr, .int .i64 s.ctx, .int .i64 s.stmt, .bool s.mark] 53 (0, 0)) ∧ wr.heap[g4]? = some (.cells #[.int .i64 0, .int .i64 0, .int .i64 0, .bool false] 53 (0, 0)) ∧ Ext w wr) (fun i _ _ => t.rows.length - (intOf i).toNat)
  case atStart => exact ⟨0, zeroR, false, by omega, rfl, rfl, Lib.hid rfl, hB6, hB4, hX0⟩
  case round =>
    clear q0 q1 q2 hB2 hB4 hB6 hX0
    obtain ⟨k, s, b, hk, rfl, rfl, HS, hB6, hB4, hX⟩ := hrel
    obtain ⟨wo, rfl⟩ : ∃ W : World, W = wr := ⟨_, rfl⟩
    by_cases hlt : k < t.rows.length
    · have hij : (k : Int) < (t.rows.length : Int) := by omega
      obtain ⟨b8, o8, hAe, hra⟩ := (hy.ext hX).at_ (k := 4) (fun _ _ => rfl) (by omega) hlt
      subst hAe
      have HTR := Lib.hid (List.take_succ_eq_append_getElem hlt)
      generalize t.rows[k] = r at *
      have hld := lrow_load hra
      obtain ⟨hst, hG9, hXG⟩ := box_new (P := Try.prog) wo 53 #[.int .i64 0, .int .i64 0, .int .i64 0, .bool false] #[.int .i64 r.addr, .int .i64 r.ctx, .int .i64 r.stmt, .bool r.mark] rw_size rfl (by simp [Value.oneCell'])
      go_upto_region 7 with first | refine wpList_load_run rfl 53 (.tmp 27) rfl _ _ rfl hld ?_ | refine wpList_store_run rfl 53 (.tmp 9) (.tmp 28) rfl _ _ _ rfl rfl hst ?_
      obtain ⟨g9, hg9⟩ : ∃ g, g = wo.heap.size := ⟨_, rfl⟩
      rw [← hg9] at hG9 hXG ⊢
      generalize (wo.alloc (.cells #[.int .i64 0, .int .i64 0, .int .i64 0, .bool false] 53)).setRow g9 #[.int .i64 r.addr, .int .i64 r.ctx, .int .i64 r.stmt, .bool r.mark] = wg at *
      dsimp only [Act.put]
      have hC6 := hXG.heap hB6
      have hC4 := hXG.heap hB4
      have hXX := hX.trans hXG
      clear hst hld hra hXG hX hB6 hB4 hg9
      obtain ⟨r0, r1, r2, r3⟩ := blkR hG9
      by_cases hle : r.addr ≤ addr
      · have d : decide (r.addr ≤ addr) = true := by simpa using hle
        have HN : Hid ((r, true) = lastLe addr (t.rows.take (k + 1))) := Lib.hid (by rw [HTR.out, lastLe_snoc, if_pos hle])
        have hldr := run_loadAt_blk (P := Try.prog) wg g9 53 53 _ (0, 0) _ hG9 Try.underlying53 rfl rw_size
        have hstr := run_storeAt_blk (P := Try.prog) wg g6 53 53 _ #[.int .i64 r.addr, .int .i64 r.ctx, .int .i64 r.stmt, .bool r.mark] hC6 rw_size rfl (by simp [Value.oneCell'])
        go_upto_region 9 with first | refine wpList_load_run rfl 53 (.tmp 9) rfl _ _ rfl hldr ?_ | refine wpList_store_run rfl 53 (.tmp 6) (.tmp 33) rfl _ _ _ rfl rfl hstr ?_
        have V6 : (wg.setRow g6 #[.int .i64 r.addr, .int .i64 r.ctx, .int .i64 r.stmt, .bool r.mark]).heap[g6]? = some (.cells #[.int .i64 r.addr, .int .i64 r.ctx, .int .i64 r.stmt, .bool r.mark] 53 (0, 0)) := setRow_heap _ _ _ _ _ _ hC6
        have V4 := blk_grown hC4 (gsetRow wg g6 #[.int .i64 r.addr, .int .i64 r.ctx, .int .i64 r.stmt, .bool r.mark]) (fun e => hg46 (by cases e; rfl))
        have hXV := hXX.grown (gsetRow wg g6 #[.int .i64 r.addr, .int .i64 r.ctx, .int .i64 r.stmt, .bool r.mark]) (fun k e => by cases e; exact hl6)
        clear hldr hstr hG9 hC6 hC4 hXX r0 r1 r2 r3 d hle
        generalize wg.setRow g6 #[.int .i64 r.addr, .int .i64 r.ctx, .int .i64 r.stmt, .bool r.mark] = wq at *
        go_wp2_with fail
        go_roundw
        case rel => exact ⟨k + 1, r, true, by omega, by first | (with_reducible rfl) | go_num, rfl, HN, V6, V4, hXV⟩
        case measure => simp [intOf]; omega
      · have d : decide (r.addr ≤ addr) = false := by simpa using hle
        have HN : Hid ((s, b) = lastLe addr (t.rows.take (k + 1))) := Lib.hid (by rw [HTR.out, lastLe_snoc, if_neg hle, ← HS.out])
        go_wp2_with fail
        go_roundw
        case rel => exact ⟨k + 1, s, b, by omega, by first | (with_reducible rfl) | go_num, rfl, HN, hC6, hC4, hXX⟩
        case measure => simp [intOf]; omega
    · have hij : ¬ (k : Int) < (t.rows.length : Int) := by omega
      have HF : Hid ((s, b) = atL t addr) := Lib.hid (by rw [HAL.out, HS.out, List.take_of_length_le (by omega)])
      have hldr := run_loadAt_blk (P := Try.prog) wo g6 53 53 _ (0, 0) _ hB6 Try.underlying53 rfl rw_size
      have hstr := run_storeAt_blk (P := Try.prog) wo g4 53 53 _ #[.int .i64 s.addr, .int .i64 s.ctx, .int .i64 s.stmt, .bool s.mark] hB4 rw_size rfl (by simp [Value.oneCell'])
      go_wp2_with first | refine wpList_load_run rfl 53 (.tmp 6) rfl _ _ rfl hldr ?_ | refine wpList_store_run rfl 53 (.tmp 4) (.tmp 35) rfl _ _ _ rfl rfl hstr ?_
      have V4 : (wo.setRow g4 #[.int .i64 s.addr, .int .i64 s.ctx, .int .i64 s.stmt, .bool s.mark]).heap[g4]? = some (.cells #[.int .i64 s.addr, .int .i64 s.ctx, .int .i64 s.stmt, .bool s.mark] 53 (0, 0)) := setRow_heap _ _ _ _ _ _ hB4
      have hXV := hX.grown (gsetRow wo g4 #[.int .i64 s.addr, .int .i64 s.ctx, .int .i64 s.stmt, .bool s.mark]) (fun k e => by cases e; exact hl4)
      obtain ⟨k0, k1, k2, k3⟩ := blkR V4
      refine bodyPost_ret (v := .tuple #[.agg #[.int .i64 s.addr, .int .i64 s.ctx, .int .i64 s.stmt, .bool s.mark], .bool b]) (by simp [results, Try.results37, go_sem, k0, k1, k2, k3]) rfl ?_
      exact ⟨s, b, rfl, HF.out, hXV⟩
end Go.Proofs.Ytokmbdeafjmcjaa
