/- The sanity check of the statements about line tables. -/
import Derived.Test.YtokmbdeafjmcjaaLinL
import Derived.Test.YtokmbdeafjmcjaaWireR
namespace Go.Proofs.Ytokmbdeafjmcjaa
open Go.RowKit
set_option linter.unusedVariables false

def progs (l : List LTab) : List (LTab × List LOp) := l.map fun t => (t, opsRows (row0 t.lo) t.rows)
theorem progs_B (l : List LTab) : (progs l).flatMap prgB = l.flatMap encTab := by
  unfold progs
  rw [List.flatMap_map]
  congr 1
  funext t
  show prgB (t, opsRows (row0 t.lo) t.rows) = encTab t
  unfold prgB encTab
  rw [opsRows_B]
theorem progs_fst (l : List LTab) : (progs l).map Prod.fst = l := by simp [progs, Function.comp_def]
theorem small0 {lo : Int} (h : 0 ≤ lo ∧ lo ≤ 1048576) : Small (row0 lo) := ⟨h, by simp [row0], by simp [row0]⟩
theorem progs_ok {l : List LTab} (h : RightL l) : ∀ z ∈ progs l, Prg z := fun z hz => by
  obtain ⟨t, ht, rfl⟩ := List.mem_map.1 hz
  obtain ⟨h1, h2, h3⟩ := h.mem ht
  obtain ⟨a1, a2⟩ := opsRows_ok h1.2.2 t.rows (s := row0 t.lo) (nx := t.lo) ⟨small0 (by omega), by simp [row0], h2⟩
  exact ⟨a1, a2⟩
theorem Decode_enc (x : Value) (l : List LTab) (w : World) (hx : InB w x (encTabs l)) (hR : RightL l) (hl : (encTabs l).length ≤ 60000) : Calls Try.prog 34 #[x] w (DecPost l w) := by
  have h := Decode_any x (encTabs l) (progs l) w hx (by rw [progs_B]; unfold encTabs; simp [progs]) (progs_ok hR) (by rw [progs_fst]; exact hR) hl
  rw [progs_fst] at h
  exact h
def tab1 : LTab := ⟨4, 9, [⟨5, 0, 3, true⟩]⟩
theorem tab1_right : RightL [tab1] := by
  refine ⟨by simp, ⟨?_, ?_, trivial⟩, by simp [rowsN, tab1]⟩
  · simp [okTab, tab1]
  · refine ⟨⟨by simp [tab1], by simp⟩, trivial⟩
theorem uintB_small {n : Nat} (h : n < 128) : uintB (n : Int) = [UInt8.ofNat n] := by
  unfold uintB
  rw [if_neg (by omega)]
  simpa using leb_small h
theorem tab1_enc : encTabs [tab1] = [1, 4, 9, 30, 0] := by
  have h1 := uintB_small (n := 1) (by omega)
  have h4 := uintB_small (n := 4) (by omega)
  have h9 := uintB_small (n := 9) (by omega)
  simp only [encTabs, List.length_cons, List.length_nil, List.flatMap_cons, List.flatMap_nil, encTab, tab1, encRows, encRow, row0, ctxB, List.append_nil]
  rw [show (if True then ([] : List UInt8) else 2 :: uintB 0) = [] from rfl, if_pos (show shortR (5 - 4) (3 - -1) true by decide)]
  have e1 : uintB ((0 + 1 : Nat) : Int) = [1] := h1
  have e4 : uintB 4 = [4] := h4
  have e9 : uintB 9 = [9] := h9
  rw [e1, e4, e9]
  rfl
/-- tables that lie in rows made just now, one row each -/
theorem one_tab {W : World} {g g' : Nat} {t : LTab} (hg : W.heap[g]? = some (.cells #[.int .i64 t.lo, .int .i64 t.hi, .slice (some ⟨g', 0, none⟩) t.rows.length t.rows.length] 46 (0, 0))) (hr : Rd W (some ⟨g', 0, none⟩) (t.rows.flatMap lrowCells)) : LTabs W (.slice (some ⟨g, 0, none⟩) 1 1) [t] :=
  ⟨[(t, .slice (some ⟨g', 0, none⟩) t.rows.length t.rows.length)], rfl, ⟨_, 1, rfl, Nat.le_refl _, Rd_blk hg⟩, fun z hz => by
    simp only [List.mem_singleton] at hz
    subst hz
    exact ⟨_, _, rfl, Nat.le_refl _, hr⟩⟩
set_option maxHeartbeats 4000000 in
set_option maxRecDepth 100000 in
theorem known18_any (w : World) : Calls Try.prog 26 #[] w fun en w' => en = .returned (.bool true) ∧ Ext w w' := by
  go_enter Try.func26, Try.ntmps26
  have hB0 := heap_alloc_new w (.cells #[.int .i64 5, .int .i64 0, .int .i64 3, .bool true] 53)
  have hE0 := (Ext.refl w).alloc (.cells #[.int .i64 5, .int .i64 0, .int .i64 3, .bool true] 53)
  go_wp2_with first | refine wpList_rowOne elem_rw rfl (.tmp 4) rfl #[.int .i64 5, .int .i64 0, .int .i64 3, .bool true] rfl rfl (by omega) ?_ | refine wpList_rowOne elem_lt rfl (.tmp 6) rfl #[.int .i64 4, .int .i64 9, .slice (some ⟨w.heap.size, 0, none⟩) 1 1] rfl rfl (by omega) ?_
  have hB1 := heap_alloc_new (w.alloc (.cells #[.int .i64 5, .int .i64 0, .int .i64 3, .bool true] 53)) (.cells #[.int .i64 4, .int .i64 9, .slice (some ⟨w.heap.size, 0, none⟩) 1 1] 46)
  have hE1 := hE0.alloc (.cells #[.int .i64 4, .int .i64 9, .slice (some ⟨w.heap.size, 0, none⟩) 1 1] 46)
  have hB01 := ((Ext.refl _).alloc (.cells #[.int .i64 4, .int .i64 9, .slice (some ⟨w.heap.size, 0, none⟩) 1 1] 46)).heap hB0
  have hLT : LTabs ((w.alloc (.cells #[.int .i64 5, .int .i64 0, .int .i64 3, .bool true] 53)).alloc (.cells #[.int .i64 4, .int .i64 9, .slice (some ⟨w.heap.size, 0, none⟩) 1 1] 46)) (.slice (some ⟨(w.alloc (.cells #[.int .i64 5, .int .i64 0, .int .i64 3, .bool true] 53)).heap.size, 0, none⟩) 1 1) [tab1] := one_tab (t := tab1) hB1 (Rd_blk hB01)
  have hsz : (w.alloc (.cells #[.int .i64 5, .int .i64 0, .int .i64 3, .bool true] 53)).heap.size = w.heap.size + 1 := by simp
  rw [hsz] at hLT
  generalize (w.alloc (.cells #[.int .i64 5, .int .i64 0, .int .i64 3, .bool true] 53)).alloc (.cells #[.int .i64 4, .int .i64 9, .slice (some ⟨w.heap.size, 0, none⟩) 1 1] 46) = W at *
  obtain ⟨L, hL⟩ : ∃ L, L = [tab1] := ⟨_, rfl⟩
  rw [← hL] at hLT
  have HL := Lib.hid hL
  have hI : ∀ t ∈ L, t.I := fun t ht => by rw [hL] at ht; exact tab1_right.I ht
  have hR : RightL L := by rw [hL]; exact tab1_right
  have hll : L.length ≤ 9223372036854775807 := by rw [hL]; simp
  obtain ⟨bs, hbs, hbs5⟩ : ∃ bs, bs = encTabs L ∧ bs = [1, 4, 9, 30, 0] := ⟨_, rfl, by rw [hL]; exact tab1_enc⟩
  have hbl : bs.length ≤ 60000 := by rw [hbs5]; simp
  have hEL : EncL L = bs := by unfold EncL; rw [if_pos hR, if_pos (by rw [← hbs]; exact hbl), hbs]
  have HBS := Lib.hid hbs
  have HBS5 := Lib.hid hbs5
  clear hL hbs hbs5
  refine (Encode_any L _ _ hLT hI hll).mono ?_
  rintro en w2 ⟨y2, rfl, ho2, hx2⟩
  rw [hEL] at ho2
  have hX2 := hE1.trans hx2
  have hi2 := ho2.inV
  obtain ⟨A2, c2, hv2, _, _⟩ := id hi2
  obtain ⟨n2, hn2⟩ : ∃ n2, n2 = bs.length := ⟨_, rfl⟩
  rw [← hn2] at hv2
  subst hv2
  have HN2 := Lib.hid hn2
  clear hB0 hE0 hB1 hE1 hB01 hLT hx2 hEL ho2 hn2 hsz
  go_wp2_with fail
  refine (Decode_enc _ L w2 (by rw [← HBS.out]; exact hi2) hR (by rw [← HBS.out]; exact hbl)).mono ?_
  rintro en w3 ⟨y3, rfl, ho3, hx3⟩
  have hX3 := hX2.trans hx3
  have hi3 := hi2.ext hx3
  have hT3 : LTabs w3 y3 [tab1] := by have := ho3.in_; rw [HL.out] at this; exact this
  obtain ⟨A3, c3, hv3⟩ := hT3.form
  subst hv3
  obtain ⟨b1, o1, y4, hA, hra, hrw⟩ := hT3.at_ (j := 0) (by simp)
  subst hA
  obtain ⟨A5, c5, hy5, _, _⟩ := id hrw
  subst hy5
  obtain ⟨b2, o2, hA, hrb⟩ := hrw.at_ (k := 4) (fun _ _ => rfl) (by omega) (j := 0) (by simp [tab1])
  subst hA
  have q1 : w3.cell? ⟨b1, o1 + 2, none⟩ = some (.slice (some ⟨b2, o2, none⟩) 1 c5) := by have := hra 2 _ rfl; simpa [tab1] using this
  have q2 : w3.cell? ⟨b2, o2 + 2, none⟩ = some (.int .i64 3) := by have := hrb 2 _ rfl; simpa [tab1] using this
  clear hra hrw hrb hT3 ho3 hi2 hX2 hI hR hll
  have hA := (Ext.refl w3).alloc (.cells #[.int .u8 1, .int .u8 4, .int .u8 9, .int .u8 30, .int .u8 0] 5)
  have hy : InB (w3.alloc (.cells #[.int .u8 1, .int .u8 4, .int .u8 9, .int .u8 30, .int .u8 0] 5)) (.slice (some ⟨w3.heap.size, 0, none⟩) 5 5) bs := by
    rw [HBS5.out]
    exact ⟨_, 5, rfl, Nat.le_refl _, Rd_blk (heap_alloc_new w3 (.cells #[.int .u8 1, .int .u8 4, .int .u8 9, .int .u8 30, .int .u8 0] 5))⟩
  have hx4 := hi3.ext hA
  have hX4 := hX3.trans hA
  have k1 := hA.cell q1
  have k2 := hA.cell q2
  have hbl4 : bs.length ≤ 4294967296 := by omega
  clear hi3 hA q1 q2 hX3 hbl
  go_wp2_with fail
  generalize w3.alloc (.cells #[.int .u8 1, .int .u8 4, .int .u8 9, .int .u8 30, .int .u8 0] 5) = w4 at *
  refine (sameList_any _ _ bs bs w4 hx4 hy hbl4 hbl4).mono ?_
  rintro en w5 ⟨rfl, n5, rfl⟩
  have hd : decide (bs = bs) = true := by simp
  rw [hd]
  have hX5 := hX4.drewN n5
  have k1' := (Ext.refl w4).drewN n5 |>.cell k1
  have k2' := (Ext.refl w4).drewN n5 |>.cell k2
  clear hx4 hy hbl4 hX4 k1 k2 hd
  generalize w4.drewN n5 = w6 at *
  go_wp2_with fail
  go_ret
  exact ⟨rfl, hX5⟩
end Go.Proofs.Ytokmbdeafjmcjaa
