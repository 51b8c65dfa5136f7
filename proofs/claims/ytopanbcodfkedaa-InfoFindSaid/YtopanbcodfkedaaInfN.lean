/- Find, the walk of InfoFind. -/
import Derived.Test.YtopanbcodfkedaaInfM
namespace Go.Proofs.Ytopanbcodfkedaa
open Go.RowKit
set_option linter.unusedVariables false
set_option linter.unusedSimpArgs false

def attZ : Att := ⟨0, 0, 0, ByteArray.empty⟩
def findA (l : List Att) (nm : Int) : Option Att := l.find? (fun a => decide (a.name = nm))
theorem findA_cons (a : Att) (l : List Att) (nm : Int) : findA (a :: l) nm = if a.name = nm then some a else findA l nm := by
  unfold findA
  rw [List.find?_cons]
  by_cases h : a.name = nm <;> simp [h]
theorem findA_some {l : List Att} {j : Nat} (hj : j < l.length) : ∃ y, findA l l[j].name = some y := by
  have : (findA l l[j].name).isSome = true := by
    unfold findA
    rw [List.find?_isSome]
    exact ⟨l[j], List.getElem_mem hj, by simp⟩
  exact Option.isSome_iff_exists.1 this
theorem findA_first {l : List Att} {j : Nat} (hj : j < l.length) (h : ∀ a ∈ l.take j, a.name ≠ l[j].name) : findA l l[j].name = some l[j] := by
  have e : l = l.take j ++ (l[j] :: l.drop (j + 1)) := by rw [← List.drop_eq_getElem_cons hj, List.take_append_drop]
  generalize hx : l[j] = x at *
  rw [e]
  unfold findA
  rw [List.find?_append]
  have h1 : (l.take j).find? (fun a => decide (a.name = x.name)) = none := by
    rw [List.find?_eq_none]
    intro a ha
    simpa using h a ha
  rw [h1]
  simp
def FindPost (r : Att) (b : Bool) (w : World) (en : Ending) (w' : World) : Prop := en = .returned (.tuple #[.agg #[.int .i64 r.name, .int .i64 r.form, .int .i64 r.value, .string r.text], .bool b]) ∧ Ext w w'
set_option maxHeartbeats 4000000 in
set_option maxRecDepth 100000 in
theorem find_any (d t : Int) (A : Option Addr) (n c : Nat) (l : List Att) (nm : Int) (w : World) (hy : InR attCells w (.slice A n c) l) (hn : n = l.length) (hn1 : n ≤ 1000) :
    Calls Try.prog 17 #[.agg #[.int .i64 d, .int .i64 t, .slice A n c], .int .i64 nm] w (FindPost ((findA l nm).getD attZ) (findA l nm).isSome w) := by
  have HY := Lib.hid hy
  have HN := Lib.hid hn
  clear hy hn
  go_enter Try.func17, Try.ntmps17
  go_upto_region 1 with fail
  obtain ⟨W, hW, hE, hG2, hG4⟩ : ∃ W, W = (w.alloc (.cells #[.int .i64 d, .int .i64 t, .slice A n c] 26)).alloc (.cells #[.int .i64 0, .int .i64 0, .int .i64 0, .string ByteArray.empty] 40) ∧ Ext w W ∧ W.heap[w.heap.size]? = some (.cells #[.int .i64 d, .int .i64 t, .slice A n c] 26 (0, 0)) ∧ W.heap[w.heap.size + 1]? = some (.cells #[.int .i64 0, .int .i64 0, .int .i64 0, .string ByteArray.empty] 40 (0, 0)) := ⟨_, rfl, ((Ext.refl w).alloc _).alloc _, ((Ext.refl _).alloc _).heap (heap_alloc_new w _), by have := heap_alloc_new (w.alloc (.cells #[.int .i64 d, .int .i64 t, .slice A n c] 26)) (.cells #[.int .i64 0, .int .i64 0, .int .i64 0, .string ByteArray.empty] 40); simpa using this⟩
  rw [show ({ data := #[] } : ByteArray) = ByteArray.empty from rfl, ← hW]
  clear hW
  obtain ⟨g4, hg4⟩ : ∃ g, g = w.heap.size + 1 := ⟨_, rfl⟩
  obtain ⟨g2, hg2⟩ : ∃ g, g = w.heap.size := ⟨_, rfl⟩
  have hlow : w.heap.size ≤ g4 := by omega
  rw [← hg4] at hG4 ⊢
  rw [← hg2] at hG2 ⊢
  clear hg2 hg4
  have HL := Lib.hid hlow
  obtain ⟨r0, r1, r2⟩ := blk3 hG2
  go_wp2_with fail
  clear r0 r1 r2 hlow
  go_loopw [11] (fun i wr => ∃ j : Nat, j ≤ n ∧ i = .int .i64 (j : Int) ∧ Hid (findA l nm = findA (l.drop j) nm) ∧ wr.heap[g4]? = some (.cells #[.int .i64 0, .int .i64 0, .int .i64 0, .string ByteArray.empty] 40 (0, 0)) ∧ Ext w wr) (fun i _ => n - (intOf i).toNat)
  case atStart => exact ⟨0, by omega, rfl, Lib.hid (by rw [List.drop_zero]), hG4, hE⟩
  case round =>
    clear hG2 hG4 hE
    obtain ⟨j, hj, rfl, HD, hG4, hX⟩ := hrel
    obtain ⟨wo, rfl⟩ : ∃ wo : World, wo = wr := ⟨_, rfl⟩
    by_cases hlt : j < n
    · have hij : (j : Int) < (n : Int) := by omega
      have hlt' : j < l.length := by rw [← HN.out]; exact hlt
      obtain ⟨bb, oo, hAe, hra⟩ := (HY.out.ext hX).at_ (k := 4) (fun z hz => rfl) (by omega) hlt'
      subst hAe
      have HD2 : Hid (findA l nm = if l[j].name = nm then some l[j] else findA (l.drop (j + 1)) nm) := Lib.hid (by
        rw [HD.out, List.drop_eq_getElem_cons hlt', findA_cons])
      clear HD
      generalize l[j] = a at *
      have hld := att_load hra
      obtain ⟨hst, hG, hXG⟩ := box_new (P := Try.prog) wo 40 #[.int .i64 0, .int .i64 0, .int .i64 0, .string ByteArray.empty] #[.int .i64 a.name, .int .i64 a.form, .int .i64 a.value, .string a.text] at_size rfl (by simp [Value.oneCell'])
      go_upto_region 4 with first | refine wpList_load_run rfl 40 (.tmp 13) rfl _ _ rfl hld ?_ | refine wpList_store_run rfl 40 (.tmp 7) (.tmp 14) rfl _ _ _ rfl rfl hst ?_
      obtain ⟨g7, hg7⟩ : ∃ g, g = wo.heap.size := ⟨_, rfl⟩
      rw [← hg7] at hG hXG ⊢
      generalize (wo.alloc (.cells #[.int .i64 0, .int .i64 0, .int .i64 0, .string ByteArray.empty] 40)).setRow g7 #[.int .i64 a.name, .int .i64 a.form, .int .i64 a.value, .string a.text] = wg at *
      try dsimp only [Act.put]
      have hX2 := hX.trans hXG
      have hG42 := hXG.heap hG4
      clear hst hld hra hXG hg7 hX hG4
      obtain ⟨r0, r1, r2, r3⟩ := blkR hG
      by_cases hnm : a.name = nm
      · have e1 : (a.name == nm) = true := by simpa using hnm
        have e1d : decide (a.name = nm) = true := by simpa using hnm
        have HR : Hid (findA l nm = some a) := Lib.hid (by rw [HD2.out, if_pos hnm])
        have hldt := run_loadAt_blk (P := Try.prog) wg g7 40 40 _ (0, 0) _ hG Try.underlying40 rfl at_size
        have hstt := run_storeAt_blk (P := Try.prog) wg g4 40 40 _ #[.int .i64 a.name, .int .i64 a.form, .int .i64 a.value, .string a.text] hG42 at_size rfl (by simp [Value.oneCell'])
        clear hnm
        go_wp2_with first | refine wpList_load_run rfl 40 (.tmp 7) rfl _ _ rfl hldt ?_ | refine wpList_store_run rfl 40 (.tmp 4) (.tmp 19) rfl _ _ _ rfl rfl hstt ?_
        have hZ9 := setRow_heap wg g4 _ #[.int .i64 a.name, .int .i64 a.form, .int .i64 a.value, .string a.text] _ _ hG42
        have hX9 := hX2.grown (gsetRow wg g4 #[.int .i64 a.name, .int .i64 a.form, .int .i64 a.value, .string a.text]) (fun k e => by cases e; exact HL.out)
        clear hldt hstt
        generalize wg.setRow g4 #[.int .i64 a.name, .int .i64 a.form, .int .i64 a.value, .string a.text] = w9 at *
        obtain ⟨k0, k1, k2, k3⟩ := blkR hZ9
        refine bodyPost_ret (v := .tuple #[.agg #[.int .i64 a.name, .int .i64 a.form, .int .i64 a.value, .string a.text], .bool true]) (by simp [results, Try.results17, go_sem, k0, k1, k2, k3]) rfl ?_
        rw [HR.out]
        exact ⟨rfl, hX9⟩
      · have e1 : (a.name == nm) = false := by simpa using hnm
        have e1d : decide (a.name = nm) = false := by simpa using hnm
        have HD3 : Hid (findA l nm = findA (l.drop (j + 1)) nm) := Lib.hid (by rw [HD2.out, if_neg hnm])
        clear hnm HD2
        go_wp2_with fail
        go_roundw
        case rel => exact ⟨j + 1, by omega, by first | (with_reducible rfl) | go_num, HD3, hG42, hX2⟩
        case measure => simp [intOf]; omega
    · have hij : ¬ (j : Int) < (n : Int) := by omega
      have HR : Hid (findA l nm = none) := Lib.hid (by
        rw [HD.out, List.drop_of_length_le (by have := HN.out; omega)]
        rfl)
      have hstt := run_storeAt_blk (P := Try.prog) wo g4 40 40 _ #[.int .i64 0, .int .i64 0, .int .i64 0, .string ByteArray.empty] hG4 at_size rfl (by simp [Value.oneCell'])
      go_wp2_with first | refine wpList_store_run rfl 40 (.tmp 4) (.tmp 21) rfl _ _ _ rfl rfl hstt ?_
      have hZ9 := setRow_heap wo g4 _ #[.int .i64 0, .int .i64 0, .int .i64 0, .string ByteArray.empty] _ _ hG4
      have hX9 := hX.grown (gsetRow wo g4 #[.int .i64 0, .int .i64 0, .int .i64 0, .string ByteArray.empty]) (fun k e => by cases e; exact HL.out)
      clear hstt
      generalize wo.setRow g4 #[.int .i64 0, .int .i64 0, .int .i64 0, .string ByteArray.empty] = w9 at *
      obtain ⟨k0, k1, k2, k3⟩ := blkR hZ9
      refine bodyPost_ret (v := .tuple #[.agg #[.int .i64 0, .int .i64 0, .int .i64 0, .string ByteArray.empty], .bool false]) (by simp [results, Try.results17, go_sem, k0, k1, k2, k3]) rfl ?_
      rw [HR.out]
      exact ⟨rfl, hX9⟩
set_option maxHeartbeats 4000000 in
set_option maxRecDepth 100000 in
theorem refFind_any (d t : Int) (A : Option Addr) (n c : Nat) (l : List Att) (nm : Int) (w : World) (hy : InR attCells w (.slice A n c) l) (hn : n = l.length) (hn1 : n ≤ 1000) :
    Calls Try.prog 18 #[.agg #[.int .i64 d, .int .i64 t, .slice A n c], .int .i64 nm] w (FindPost ((findA l nm).getD attZ) (findA l nm).isSome w) := by
  have HY := Lib.hid hy
  have HN := Lib.hid hn
  clear hy hn
  go_enter Try.func18, Try.ntmps18
  go_upto_region 1 with fail
  obtain ⟨W, hW, hE, hG2, hG4⟩ : ∃ W, W = (w.alloc (.cells #[.int .i64 d, .int .i64 t, .slice A n c] 26)).alloc (.cells #[.int .i64 0, .int .i64 0, .int .i64 0, .string ByteArray.empty] 40) ∧ Ext w W ∧ W.heap[w.heap.size]? = some (.cells #[.int .i64 d, .int .i64 t, .slice A n c] 26 (0, 0)) ∧ W.heap[w.heap.size + 1]? = some (.cells #[.int .i64 0, .int .i64 0, .int .i64 0, .string ByteArray.empty] 40 (0, 0)) := ⟨_, rfl, ((Ext.refl w).alloc _).alloc _, ((Ext.refl _).alloc _).heap (heap_alloc_new w _), by have := heap_alloc_new (w.alloc (.cells #[.int .i64 d, .int .i64 t, .slice A n c] 26)) (.cells #[.int .i64 0, .int .i64 0, .int .i64 0, .string ByteArray.empty] 40); simpa using this⟩
  rw [show ({ data := #[] } : ByteArray) = ByteArray.empty from rfl, ← hW]
  clear hW
  obtain ⟨g4, hg4⟩ : ∃ g, g = w.heap.size + 1 := ⟨_, rfl⟩
  obtain ⟨g2, hg2⟩ : ∃ g, g = w.heap.size := ⟨_, rfl⟩
  have hlow : w.heap.size ≤ g4 := by omega
  rw [← hg4] at hG4 ⊢
  rw [← hg2] at hG2 ⊢
  clear hg2 hg4
  have HL := Lib.hid hlow
  obtain ⟨r0, r1, r2⟩ := blk3 hG2
  go_wp2_with fail
  clear r0 r1 r2 hlow
  go_loopw [11] (fun i wr => ∃ j : Nat, j ≤ n ∧ i = .int .i64 (j : Int) ∧ Hid (findA l nm = findA (l.drop j) nm) ∧ wr.heap[g4]? = some (.cells #[.int .i64 0, .int .i64 0, .int .i64 0, .string ByteArray.empty] 40 (0, 0)) ∧ Ext w wr) (fun i _ => n - (intOf i).toNat)
  case atStart => exact ⟨0, by omega, rfl, Lib.hid (by rw [List.drop_zero]), hG4, hE⟩
  case round =>
    clear hG2 hG4 hE
    obtain ⟨j, hj, rfl, HD, hG4, hX⟩ := hrel
    obtain ⟨wo, rfl⟩ : ∃ wo : World, wo = wr := ⟨_, rfl⟩
    by_cases hlt : j < n
    · have hij : (j : Int) < (n : Int) := by omega
      have hlt' : j < l.length := by rw [← HN.out]; exact hlt
      obtain ⟨bb, oo, hAe, hra⟩ := (HY.out.ext hX).at_ (k := 4) (fun z hz => rfl) (by omega) hlt'
      subst hAe
      have HD2 : Hid (findA l nm = if l[j].name = nm then some l[j] else findA (l.drop (j + 1)) nm) := Lib.hid (by
        rw [HD.out, List.drop_eq_getElem_cons hlt', findA_cons])
      clear HD
      generalize l[j] = a at *
      have hld := att_load hra
      obtain ⟨hst, hG, hXG⟩ := box_new (P := Try.prog) wo 40 #[.int .i64 0, .int .i64 0, .int .i64 0, .string ByteArray.empty] #[.int .i64 a.name, .int .i64 a.form, .int .i64 a.value, .string a.text] at_size rfl (by simp [Value.oneCell'])
      go_upto_region 4 with first | refine wpList_load_run rfl 40 (.tmp 13) rfl _ _ rfl hld ?_ | refine wpList_store_run rfl 40 (.tmp 7) (.tmp 14) rfl _ _ _ rfl rfl hst ?_
      obtain ⟨g7, hg7⟩ : ∃ g, g = wo.heap.size := ⟨_, rfl⟩
      rw [← hg7] at hG hXG ⊢
      generalize (wo.alloc (.cells #[.int .i64 0, .int .i64 0, .int .i64 0, .string ByteArray.empty] 40)).setRow g7 #[.int .i64 a.name, .int .i64 a.form, .int .i64 a.value, .string a.text] = wg at *
      try dsimp only [Act.put]
      have hX2 := hX.trans hXG
      have hG42 := hXG.heap hG4
      clear hst hld hra hXG hg7 hX hG4
      obtain ⟨r0, r1, r2, r3⟩ := blkR hG
      by_cases hnm : a.name = nm
      · have e1 : (a.name == nm) = true := by simpa using hnm
        have e1d : decide (a.name = nm) = true := by simpa using hnm
        have HR : Hid (findA l nm = some a) := Lib.hid (by rw [HD2.out, if_pos hnm])
        have hldt := run_loadAt_blk (P := Try.prog) wg g7 40 40 _ (0, 0) _ hG Try.underlying40 rfl at_size
        have hstt := run_storeAt_blk (P := Try.prog) wg g4 40 40 _ #[.int .i64 a.name, .int .i64 a.form, .int .i64 a.value, .string a.text] hG42 at_size rfl (by simp [Value.oneCell'])
        clear hnm
        go_wp2_with first | refine wpList_load_run rfl 40 (.tmp 7) rfl _ _ rfl hldt ?_ | refine wpList_store_run rfl 40 (.tmp 4) (.tmp 19) rfl _ _ _ rfl rfl hstt ?_
        have hZ9 := setRow_heap wg g4 _ #[.int .i64 a.name, .int .i64 a.form, .int .i64 a.value, .string a.text] _ _ hG42
        have hX9 := hX2.grown (gsetRow wg g4 #[.int .i64 a.name, .int .i64 a.form, .int .i64 a.value, .string a.text]) (fun k e => by cases e; exact HL.out)
        clear hldt hstt
        generalize wg.setRow g4 #[.int .i64 a.name, .int .i64 a.form, .int .i64 a.value, .string a.text] = w9 at *
        obtain ⟨k0, k1, k2, k3⟩ := blkR hZ9
        refine bodyPost_ret (v := .tuple #[.agg #[.int .i64 a.name, .int .i64 a.form, .int .i64 a.value, .string a.text], .bool true]) (by simp [results, Try.results18, go_sem, k0, k1, k2, k3]) rfl ?_
        rw [HR.out]
        exact ⟨rfl, hX9⟩
      · have e1 : (a.name == nm) = false := by simpa using hnm
        have e1d : decide (a.name = nm) = false := by simpa using hnm
        have HD3 : Hid (findA l nm = findA (l.drop (j + 1)) nm) := Lib.hid (by rw [HD2.out, if_neg hnm])
        clear hnm HD2
        go_wp2_with fail
        go_roundw
        case rel => exact ⟨j + 1, by omega, by first | (with_reducible rfl) | go_num, HD3, hG42, hX2⟩
        case measure => simp [intOf]; omega
    · have hij : ¬ (j : Int) < (n : Int) := by omega
      have HR : Hid (findA l nm = none) := Lib.hid (by
        rw [HD.out, List.drop_of_length_le (by have := HN.out; omega)]
        rfl)
      have hstt := run_storeAt_blk (P := Try.prog) wo g4 40 40 _ #[.int .i64 0, .int .i64 0, .int .i64 0, .string ByteArray.empty] hG4 at_size rfl (by simp [Value.oneCell'])
      go_wp2_with first | refine wpList_store_run rfl 40 (.tmp 4) (.tmp 21) rfl _ _ _ rfl rfl hstt ?_
      have hZ9 := setRow_heap wo g4 _ #[.int .i64 0, .int .i64 0, .int .i64 0, .string ByteArray.empty] _ _ hG4
      have hX9 := hX.grown (gsetRow wo g4 #[.int .i64 0, .int .i64 0, .int .i64 0, .string ByteArray.empty]) (fun k e => by cases e; exact HL.out)
      clear hstt
      generalize wo.setRow g4 #[.int .i64 0, .int .i64 0, .int .i64 0, .string ByteArray.empty] = w9 at *
      obtain ⟨k0, k1, k2, k3⟩ := blkR hZ9
      refine bodyPost_ret (v := .tuple #[.agg #[.int .i64 0, .int .i64 0, .int .i64 0, .string ByteArray.empty], .bool false]) (by simp [results, Try.results18, go_sem, k0, k1, k2, k3]) rfl ?_
      rw [HR.out]
      exact ⟨rfl, hX9⟩
end Go.Proofs.Ytopanbcodfkedaa
