/- The specification's Offset and Find, and cfi.Find. -/
import Derived.Test.YtokmbdeafjmcjaaCfO
namespace Go.Proofs.Ytokmbdeafjmcjaa
open Go.RowKit
set_option linter.unusedVariables false

set_option maxHeartbeats 40000000 in
set_option maxRecDepth 100000 in
theorem refOffset_any (t : FTab) (y z : Value) (addr : Int) (w : World) (hy : InR stpCells w y t.steps) (hz : InR objCells w z t.objs) (hI : t.I) :
    Calls Try.prog 25 #[.agg #[.int .i64 t.lo, .int .i64 t.hi, y, z], .int .i64 addr] w (OffPost t addr w) := by
  obtain ⟨A2, c2, rfl, _, _⟩ := id hy
  obtain ⟨A3, c3, rfl, _, _⟩ := hz
  have hlen := hI.steps
  go_enter Try.func25, Try.ntmps25
  go_upto_region 1 with fail
  obtain ⟨W, hW, hE, hB⟩ : ∃ W, W = w.alloc (.cells #[.int .i64 t.lo, .int .i64 t.hi, .slice A2 t.steps.length c2, .slice A3 t.objs.length c3] 27) ∧ Ext w W ∧ W.heap[w.heap.size]? = some (.cells #[.int .i64 t.lo, .int .i64 t.hi, .slice A2 t.steps.length c2, .slice A3 t.objs.length c3] 27 (0, 0)) := ⟨_, rfl, (Ext.refl w).alloc _, heap_alloc_new w _⟩
  rw [← hW]
  clear hW
  obtain ⟨q0, q1, q2, q3⟩ := blkR hB
  by_cases h1 : addr < t.lo
  case pos =>
    have d1 : decide (addr < t.lo) = true := by simpa using h1
    have H1 := Lib.hid h1
    clear h1
    go_wp2_with fail
    refine bodyPost_ret (by simp [results, Try.results25, go_sem]; rfl) rfl ?_
    exact ⟨0, false, rfl, by unfold offF; rw [if_pos (.inl H1.out)], hE⟩
  have d1 : decide (addr < t.lo) = false := by simpa using h1
  by_cases h2 : t.hi ≤ addr
  case pos =>
    have d2 : decide (t.hi ≤ addr) = true := by simpa using h2
    have H1 := Lib.hid h2
    clear h1 h2
    go_wp2_with fail
    refine bodyPost_ret (by simp [results, Try.results25, go_sem]; rfl) rfl ?_
    exact ⟨0, false, rfl, by unfold offF; rw [if_pos (.inr H1.out)], hE⟩
  have d2 : decide (t.hi ≤ addr) = false := by simpa using h2
  have HO : Hid (offF t addr = lastS addr t.steps) := Lib.hid (by unfold offF; rw [if_neg (by omega)])
  clear h1 h2
  go_wp2_with fail
  go_loopw [6, 7, 23] (fun v b i wr => ∃ (j : Nat) (n : Int) (is : Bool), j ≤ t.steps.length ∧ i = .int .i64 (j : Int) ∧ v = .int .i64 n ∧ b = .bool is ∧ Hid ((n, is) = lastS addr (t.steps.take j)) ∧ Ext W wr) (fun _ _ i _ => t.steps.length - (intOf i).toNat)
  case atStart => exact ⟨0, 0, false, by omega, rfl, rfl, rfl, Lib.hid (by rw [List.take_zero]; rfl), Ext.refl _⟩
  case round =>
    clear q0 q1 q2 q3
    obtain ⟨j, n, is, hj, rfl, rfl, rfl, HR, hX⟩ := hrel
    obtain ⟨wo, rfl⟩ : ∃ wo : World, wo = wr := ⟨_, rfl⟩
    by_cases hlt : j < t.steps.length
    · have hij : (j : Int) < (t.steps.length : Int) := by omega
      obtain ⟨bb, oo, rfl, hra⟩ := (hy.ext (hE.trans hX)).at_ (k := 2) (fun _ _ => rfl) (by omega) hlt
      have HTK := Lib.hid (List.take_succ_eq_append_getElem hlt)
      generalize t.steps[j] = r at *
      have hld := stp_load hra
      obtain ⟨hst, hG, hXG⟩ := box_new (P := Try.prog) wo 78 #[.int .i64 0, .int .i64 0] #[.int .i64 r.addr, .int .i64 r.off] sp_size rfl (by simp [Value.oneCell'])
      go_upto_region 7 with first | refine wpList_load_run rfl 78 (.tmp 25) rfl _ _ rfl hld ?_ | refine wpList_store_run rfl 78 (.tmp 9) (.tmp 26) rfl _ _ _ rfl rfl hst ?_
      obtain ⟨g, hg⟩ : ∃ g, g = wo.heap.size := ⟨_, rfl⟩
      rw [← hg] at hG hXG ⊢
      generalize (wo.alloc (.cells #[.int .i64 0, .int .i64 0] 78)).setRow g #[.int .i64 r.addr, .int .i64 r.off] = wg at *
      dsimp only [Act.put]
      obtain ⟨r0, r1⟩ := blk2 hG
      have hXX := hX.trans hXG
      clear hst hld hra hG hXG hX hg
      by_cases h : r.addr ≤ addr
      · have d : decide (r.addr ≤ addr) = true := by simpa using h
        have HN : Hid ((r.off, true) = lastS addr (t.steps.take (j + 1))) := Lib.hid (by rw [HTK.out, lastS_snoc, if_pos h])
        clear h HR
        go_wp2_with fail
        go_roundw
        case rel => exact ⟨j + 1, r.off, true, by omega, by first | (with_reducible rfl) | go_num, rfl, rfl, HN, hXX⟩
        case measure => simp [intOf]; omega
      · have d : decide (r.addr ≤ addr) = false := by simpa using h
        have HN : Hid ((n, is) = lastS addr (t.steps.take (j + 1))) := Lib.hid (by rw [HTK.out, lastS_snoc, if_neg h]; exact HR.out)
        clear h HR
        go_wp2_with fail
        go_roundw
        case rel => exact ⟨j + 1, n, is, by omega, by first | (with_reducible rfl) | go_num, rfl, rfl, HN, hXX⟩
        case measure => simp [intOf]; omega
    · have hij : ¬ (j : Int) < (t.steps.length : Int) := by omega
      have HN : Hid ((n, is) = offF t addr) := Lib.hid (by have := HR.out; rw [List.take_of_length_le (by omega)] at this; rw [HO.out]; exact this)
      clear HR
      go_wp2_with fail
      refine bodyPost_ret (by simp [results, Try.results25, go_sem]; rfl) rfl ?_
      exact ⟨n, is, rfl, HN.out, hE.trans hX⟩
def FindPost (l : List FTab) (addr : Int) (w : World) (en : Ending) (w' : World) : Prop := ∃ (n : Int) (b : Bool), en = .returned (.tuple #[.int .i64 n, .bool b]) ∧ (n, b) = findF l addr ∧ Ext w w'
set_option maxHeartbeats 40000000 in
set_option maxRecDepth 100000 in
theorem Find_any (l : List FTab) (v : Value) (addr : Int) (w : World) (hv : FTabs w v l) (hl : l.length ≤ 9223372036854775807) :
    Calls Try.prog 22 #[v, .int .i64 addr] w (FindPost l addr w) := by
  obtain ⟨A, c, rfl⟩ := hv.form
  have HV := Lib.hid hv
  clear hv
  go_enter Try.func22, Try.ntmps22
  go_wp2_with fail
  go_loopw [10] (fun i wr => ∃ (j : Nat), j ≤ l.length ∧ i = .int .i64 (j : Int) ∧ Hid (∀ t ∈ l.take j, inF addr t = false) ∧ Ext w wr) (fun i _ => l.length - (intOf i).toNat)
  case atStart => exact ⟨0, by omega, rfl, Lib.hid (by simp), Ext.refl _⟩
  case round =>
    obtain ⟨j, hj, rfl, HR, hX⟩ := hrel
    obtain ⟨wo, rfl⟩ : ∃ wo : World, wo = wr := ⟨_, rfl⟩
    by_cases hlt : j < l.length
    · have hij : (j : Int) < (l.length : Int) := by omega
      obtain ⟨bb, oo, y, z, rfl, hra, hrw1, hrw2⟩ := (HV.out.ext hX).at_ hlt
      have HTK := Lib.hid (List.take_succ_eq_append_getElem hlt)
      have HF : Hid (inF addr l[j] = true → findF l addr = ((j : Int), true)) := Lib.hid (fun h => findF_some hlt h HR.out)
      generalize l[j] = t at *
      obtain ⟨A2, c2, rfl, _, _⟩ := hrw1
      obtain ⟨A3, c3, rfl, _, _⟩ := hrw2
      have hld := ftab_load hra
      obtain ⟨hst, hG, hXG⟩ := box_new (P := Try.prog) wo 27 #[.int .i64 0, .int .i64 0, .slice none 0 0, .slice none 0 0] #[.int .i64 t.lo, .int .i64 t.hi, .slice A2 t.steps.length c2, .slice A3 t.objs.length c3] ft_size rfl (by simp [Value.oneCell'])
      go_upto_region 4 with first | refine wpList_load_run rfl 27 (.tmp 13) rfl _ _ rfl hld ?_ | refine wpList_store_run rfl 27 (.tmp 7) (.tmp 14) rfl _ _ _ rfl rfl hst ?_
      obtain ⟨g, hg⟩ : ∃ g, g = wo.heap.size := ⟨_, rfl⟩
      rw [← hg] at hG hXG ⊢
      generalize (wo.alloc (.cells #[.int .i64 0, .int .i64 0, .slice none 0 0, .slice none 0 0] 27)).setRow g #[.int .i64 t.lo, .int .i64 t.hi, .slice A2 t.steps.length c2, .slice A3 t.objs.length c3] = wg at *
      dsimp only [Act.put]
      obtain ⟨r0, r1, r2, r3⟩ := blkR hG
      have hXX := hX.trans hXG
      clear hst hld hra hG hXG hX hg
      have next : ∀ (hn : inF addr t = false), Hid (∀ t ∈ l.take (j + 1), inF addr t = false) := fun hn => Lib.hid (by
        rw [HTK.out]
        intro s hs
        rcases List.mem_append.1 hs with hs | hs
        · exact HR.out s hs
        · simp only [List.mem_singleton] at hs
          subst hs
          exact hn)
      by_cases h1 : t.lo ≤ addr
      · have d1 : decide (t.lo ≤ addr) = true := by simpa using h1
        by_cases h2 : addr < t.hi
        · have d2 : decide (addr < t.hi) = true := by simpa using h2
          have HF2 := Lib.hid (HF.out (by unfold inF; rw [d1, d2]; rfl))
          clear h1 h2 next HR HF
          go_wp2_with fail
          refine bodyPost_ret (by simp [results, Try.results22, go_sem]; rfl) rfl ?_
          exact ⟨_, _, rfl, HF2.out.symm, hXX⟩
        · have d2 : decide (addr < t.hi) = false := by simpa using h2
          have HN := next (by unfold inF; rw [d2]; simp)
          clear h1 h2 next HR HF
          go_wp2_with fail
          go_roundw
          case rel => exact ⟨j + 1, by omega, by first | (with_reducible rfl) | go_num, HN, hXX⟩
          case measure => simp [intOf]; omega
      · have d1 : decide (t.lo ≤ addr) = false := by simpa using h1
        have HN := next (by unfold inF; rw [d1]; rfl)
        clear h1 next HR HF
        go_wp2_with fail
        go_roundw
        case rel => exact ⟨j + 1, by omega, by first | (with_reducible rfl) | go_num, HN, hXX⟩
        case measure => simp [intOf]; omega
    · have hij : ¬ (j : Int) < (l.length : Int) := by omega
      have HN : Hid (findF l addr = (0, false)) := Lib.hid (findF_none (by have := HR.out; rw [List.take_of_length_le (by omega)] at this; exact this))
      clear HR
      go_wp2_with fail
      refine bodyPost_ret (by simp [results, Try.results22, go_sem]; rfl) rfl ?_
      exact ⟨0, false, rfl, HN.out.symm, hX⟩
set_option maxHeartbeats 40000000 in
set_option maxRecDepth 100000 in
theorem refFind_any (l : List FTab) (v : Value) (addr : Int) (w : World) (hv : FTabs w v l) (hl : l.length ≤ 9223372036854775807) :
    Calls Try.prog 23 #[v, .int .i64 addr] w (FindPost l addr w) := by
  obtain ⟨A, c, rfl⟩ := hv.form
  have HV := Lib.hid hv
  clear hv
  go_enter Try.func23, Try.ntmps23
  go_wp2_with fail
  go_loopw [10] (fun i wr => ∃ (j : Nat), j ≤ l.length ∧ i = .int .i64 (j : Int) ∧ Hid (∀ t ∈ l.take j, inF addr t = false) ∧ Ext w wr) (fun i _ => l.length - (intOf i).toNat)
  case atStart => exact ⟨0, by omega, rfl, Lib.hid (by simp), Ext.refl _⟩
  case round =>
    obtain ⟨j, hj, rfl, HR, hX⟩ := hrel
    obtain ⟨wo, rfl⟩ : ∃ wo : World, wo = wr := ⟨_, rfl⟩
    by_cases hlt : j < l.length
    · have hij : (j : Int) < (l.length : Int) := by omega
      obtain ⟨bb, oo, y, z, rfl, hra, hrw1, hrw2⟩ := (HV.out.ext hX).at_ hlt
      have HTK := Lib.hid (List.take_succ_eq_append_getElem hlt)
      have HF : Hid (inF addr l[j] = true → findF l addr = ((j : Int), true)) := Lib.hid (fun h => findF_some hlt h HR.out)
      generalize l[j] = t at *
      obtain ⟨A2, c2, rfl, _, _⟩ := hrw1
      obtain ⟨A3, c3, rfl, _, _⟩ := hrw2
      have hld := ftab_load hra
      obtain ⟨hst, hG, hXG⟩ := box_new (P := Try.prog) wo 27 #[.int .i64 0, .int .i64 0, .slice none 0 0, .slice none 0 0] #[.int .i64 t.lo, .int .i64 t.hi, .slice A2 t.steps.length c2, .slice A3 t.objs.length c3] ft_size rfl (by simp [Value.oneCell'])
      go_upto_region 4 with first | refine wpList_load_run rfl 27 (.tmp 13) rfl _ _ rfl hld ?_ | refine wpList_store_run rfl 27 (.tmp 7) (.tmp 14) rfl _ _ _ rfl rfl hst ?_
      obtain ⟨g, hg⟩ : ∃ g, g = wo.heap.size := ⟨_, rfl⟩
      rw [← hg] at hG hXG ⊢
      generalize (wo.alloc (.cells #[.int .i64 0, .int .i64 0, .slice none 0 0, .slice none 0 0] 27)).setRow g #[.int .i64 t.lo, .int .i64 t.hi, .slice A2 t.steps.length c2, .slice A3 t.objs.length c3] = wg at *
      dsimp only [Act.put]
      obtain ⟨r0, r1, r2, r3⟩ := blkR hG
      have hXX := hX.trans hXG
      clear hst hld hra hG hXG hX hg
      have next : ∀ (hn : inF addr t = false), Hid (∀ t ∈ l.take (j + 1), inF addr t = false) := fun hn => Lib.hid (by
        rw [HTK.out]
        intro s hs
        rcases List.mem_append.1 hs with hs | hs
        · exact HR.out s hs
        · simp only [List.mem_singleton] at hs
          subst hs
          exact hn)
      by_cases h1 : t.lo ≤ addr
      · have d1 : decide (t.lo ≤ addr) = true := by simpa using h1
        by_cases h2 : addr < t.hi
        · have d2 : decide (addr < t.hi) = true := by simpa using h2
          have HF2 := Lib.hid (HF.out (by unfold inF; rw [d1, d2]; rfl))
          clear h1 h2 next HR HF
          go_wp2_with fail
          refine bodyPost_ret (by simp [results, Try.results23, go_sem]; rfl) rfl ?_
          exact ⟨_, _, rfl, HF2.out.symm, hXX⟩
        · have d2 : decide (addr < t.hi) = false := by simpa using h2
          have HN := next (by unfold inF; rw [d2]; simp)
          clear h1 h2 next HR HF
          go_wp2_with fail
          go_roundw
          case rel => exact ⟨j + 1, by omega, by first | (with_reducible rfl) | go_num, HN, hXX⟩
          case measure => simp [intOf]; omega
      · have d1 : decide (t.lo ≤ addr) = false := by simpa using h1
        have HN := next (by unfold inF; rw [d1]; rfl)
        clear h1 next HR HF
        go_wp2_with fail
        go_roundw
        case rel => exact ⟨j + 1, by omega, by first | (with_reducible rfl) | go_num, HN, hXX⟩
        case measure => simp [intOf]; omega
    · have hij : ¬ (j : Int) < (l.length : Int) := by omega
      have HN : Hid (findF l addr = (0, false)) := Lib.hid (findF_none (by have := HR.out; rw [List.take_of_length_le (by omega)] at this; exact this))
      clear HR
      go_wp2_with fail
      refine bodyPost_ret (by simp [results, Try.results23, go_sem]; rfl) rfl ?_
      exact ⟨0, false, rfl, HN.out.symm, hX⟩
end Go.Proofs.Ytokmbdeafjmcjaa
