/- The row at an address: the walk of lines.At (a range over slices.Backward). -/
import Derived.Test.YtokmbdeafjmcjaaBwd
namespace Go.Proofs.Ytokmbdeafjmcjaa
open Go.RowKit Go.Shelf
set_option linter.unusedVariables false
attribute [local go_sem] Oper.semAt_some

def zeroR : LRow := ⟨0, 0, 0, false⟩
/-- the row at an address, and whether there is one -/
def atL (t : LTab) (addr : Int) : LRow × Bool := if addr < t.lo ∨ t.hi ≤ addr then (zeroR, false) else match t.rows.reverse.find? (fun r => decide (r.addr ≤ addr)) with
  | some r => (r, true)
  | none => (zeroR, false)
def AtPost (t : LTab) (addr : Int) (w : World) (en : Ending) (w' : World) : Prop := ∃ (r : LRow) (b : Bool), en = .returned (.tuple #[.agg #[.int .i64 r.addr, .int .i64 r.ctx, .int .i64 r.stmt, .bool r.mark], .bool b]) ∧ (r, b) = atL t addr ∧ Ext w w'
theorem blk_ne {W : World} {g g' : Nat} {C C' : Array Value} {t t' : TypeId} {fr fr' : Nat × Nat} (h : W.heap[g]? = some (.cells C t fr)) (h' : W.heap[g']? = some (.cells C' t' fr')) (hne : t ≠ t') : g ≠ g' := fun e => by
  rw [e, h'] at h
  injection h with h
  injection h with _ e2
  exact hne e2.symm
theorem keeps_blk {W W' : World} {g : Nat} {C : Array Value} {t : TypeId} {fr : Nat × Nat} (h : W.heap[g]? = some (.cells C t fr)) (hg : W.grownBy W' (some g)) : KeepsOthers W W' :=
  ⟨hg.size, fun k o hk ho => blk_grown hk hg (fun e => by cases e; rw [h] at hk; cases hk; cases ho)⟩
theorem keeps_ext {B : Nat} {W W' : World} (h : Ext W W') : KeepsFrom B W W' := ⟨h.size, fun k o _ hk _ => h.heap hk⟩
theorem atL_none {t : LTab} {addr : Int} (h1 : ¬ addr < t.lo) (h2 : ¬ t.hi ≤ addr) {ys : List (Nat × LRow)} (hy : ys.map Prod.snd = t.rows.reverse) (h : ∀ x ∈ ys, ¬ x.2.addr ≤ addr) : (zeroR, false) = atL t addr := by
  unfold atL
  rw [if_neg (by omega)]
  have : t.rows.reverse.find? (fun r => decide (r.addr ≤ addr)) = none := by
    rw [List.find?_eq_none, ← hy]
    intro r hr
    obtain ⟨x, hx, rfl⟩ := List.mem_map.1 hr
    simpa using h x hx
  rw [this]
theorem atL_some {t : LTab} {addr : Int} (h1 : ¬ addr < t.lo) (h2 : ¬ t.hi ≤ addr) {pre : List (Nat × LRow)} {x : Nat × LRow} (hy : (pre ++ [x]).map Prod.snd <+: t.rows.reverse) (hx : x.2.addr ≤ addr) (h : ∀ z ∈ pre, ¬ z.2.addr ≤ addr) : (x.2, true) = atL t addr := by
  unfold atL
  rw [if_neg (by omega)]
  have : t.rows.reverse.find? (fun r => decide (r.addr ≤ addr)) = some x.2 := by
    obtain ⟨bs, hbs⟩ := hy
    rw [List.find?_eq_some_iff_append]
    refine ⟨by simpa using hx, pre.map Prod.snd, bs, by rw [← hbs]; simp, fun a ha => ?_⟩
    obtain ⟨z, hz, rfl⟩ := List.mem_map.1 ha
    have := h z hz
    simp; omega
  rw [this]
def AtI (addr : Int) (pre : List (Nat × LRow)) : Prop := ∀ x ∈ pre, ¬ x.2.addr ≤ addr
def AtX (addr : Int) (g4 g5 : Nat) (cc : Code) (pre : List (Nat × LRow)) (W : World) : Prop := ∃ x pre', (cc = .ret ∧ pre = pre' ++ [x] ∧ x.2.addr ≤ addr ∧ AtI addr pre') ∧ W.heap[g4]? = some (.cells #[.int .i64 x.2.addr, .int .i64 x.2.ctx, .int .i64 x.2.stmt, .bool x.2.mark] 53 (0, 0)) ∧ W.heap[g5]? = some (.cells #[.bool true] 4 (0, 0))
theorem AtI.snoc {addr : Int} {pre : List (Nat × LRow)} {x : Nat × LRow} (h : AtI addr pre) (hx : ¬ x.2.addr ≤ addr) : AtI addr (pre ++ [x]) := fun z hz => by
  rcases List.mem_append.1 hz with hz | hz
  · exact h z hz
  · simp only [List.mem_singleton] at hz
    subst hz
    exact hx
set_option maxHeartbeats 40000000 in
set_option maxRecDepth 100000 in
theorem At_any (t : LTab) (y : Value) (addr : Int) (w : World) (hy : InR lrowCells w y t.rows) (hI : t.I) :
    Calls Try.prog 36 #[.agg #[.int .i64 t.lo, .int .i64 t.hi, y], .int .i64 addr] w (AtPost t addr w) := by
  obtain ⟨A2, c2, rfl, _, _⟩ := id hy
  have hlen := hI.len
  refine (callsIn_wide (n := 5)).1 ?_
  refine callsIn_of_wp_marks Try.func36 rfl trivial ?_ rfl
  refine wpIn_wide.2 ?_
  simp only [Try.ntmps36, List.size_toArray, List.length_cons, List.length_nil, Nat.reduceAdd, Nat.reduceSub, Array.replicate_succ, Array.replicate_zero, List.push_toArray, List.append_toArray, List.nil_append, List.cons_append]
  go_upto_region 1 with fail
  have e1 := heap_alloc_new w (.cells #[.int .i64 t.lo, .int .i64 t.hi, .slice A2 t.rows.length c2] 46)
  have x1 := (Ext.refl w).alloc (.cells #[.int .i64 t.lo, .int .i64 t.hi, .slice A2 t.rows.length c2] 46)
  have z1 : (w.alloc (.cells #[.int .i64 t.lo, .int .i64 t.hi, .slice A2 t.rows.length c2] 46)).heap.size = w.heap.size + 1 := by simp
  generalize w.alloc (.cells #[.int .i64 t.lo, .int .i64 t.hi, .slice A2 t.rows.length c2] 46) = w1 at *
  rw [← z1]
  have e2 := heap_alloc_new w1 (.cells #[.int .i64 addr] 3)
  have x2 := (Ext.refl w1).alloc (.cells #[.int .i64 addr] 3)
  have z2 : (w1.alloc (.cells #[.int .i64 addr] 3)).heap.size = w1.heap.size + 1 := by simp
  generalize w1.alloc (.cells #[.int .i64 addr] 3) = w2 at *
  rw [← z2]
  have e3 := heap_alloc_new w2 (.cells #[.int .i64 0, .int .i64 0, .int .i64 0, .bool false] 53)
  have x3 := (Ext.refl w2).alloc (.cells #[.int .i64 0, .int .i64 0, .int .i64 0, .bool false] 53)
  have z3 : (w2.alloc (.cells #[.int .i64 0, .int .i64 0, .int .i64 0, .bool false] 53)).heap.size = w2.heap.size + 1 := by simp
  generalize w2.alloc (.cells #[.int .i64 0, .int .i64 0, .int .i64 0, .bool false] 53) = w3 at *
  rw [← z3]
  have e5 := heap_alloc_new w3 (.cells #[.bool false] 4)
  have x5 := (Ext.refl w3).alloc (.cells #[.bool false] 4)
  have z5 : (w3.alloc (.cells #[.bool false] 4)).heap.size = w3.heap.size + 1 := by simp
  generalize w3.alloc (.cells #[.bool false] 4) = W0 at *
  obtain ⟨g2, hg2⟩ : ∃ g, g = w.heap.size := ⟨_, rfl⟩
  obtain ⟨g3, hg3⟩ : ∃ g, g = w1.heap.size := ⟨_, rfl⟩
  obtain ⟨g4, hg4⟩ : ∃ g, g = w2.heap.size := ⟨_, rfl⟩
  obtain ⟨g5, hg5⟩ : ∃ g, g = w3.heap.size := ⟨_, rfl⟩
  rw [← hg2, ← hg3, ← hg4, ← hg5]
  rw [← hg2] at e1
  rw [← hg3] at e2
  rw [← hg4] at e3
  rw [← hg5] at e5
  have hB2 := (x2.trans (x3.trans x5)).heap e1
  have hB3 := (x3.trans x5).heap e2
  have hB4 := x5.heap e3
  have hX0 := x1.trans (x2.trans (x3.trans x5))
  have hl4 : w.heap.size ≤ g4 := by omega
  have hl5 : w.heap.size ≤ g5 := by omega
  have hls : g5 < W0.heap.size := by omega
  clear e1 e2 e3 x1 x2 x3 x5 z1 z2 z3 z5 hg2 hg3 hg4 hg5
  obtain ⟨q0, q1, q2⟩ := blkT hB2
  have q3 := blk_at hB3 0 _ rfl
  by_cases h1 : addr < t.lo
  case pos =>
    have d1 : decide (addr < t.lo) = true := by simpa using h1
    have hst := run_storeAt_blk (P := Try.prog) W0 g4 53 53 _ #[.int .i64 0, .int .i64 0, .int .i64 0, .bool false] hB4 rw_size rfl (by simp [Value.oneCell'])
    have hn45 := blk_ne hB4 e5 (by decide)
    have hS5 := blk_grown e5 (gsetRow W0 g4 #[.int .i64 0, .int .i64 0, .int .i64 0, .bool false]) (fun e => hn45 (by cases e; rfl))
    have hS4 : (W0.setRow g4 #[.int .i64 0, .int .i64 0, .int .i64 0, .bool false]).heap[g4]? = some (.cells #[.int .i64 0, .int .i64 0, .int .i64 0, .bool false] 53 (0, 0)) := setRow_heap _ _ _ _ _ _ hB4
    have p5 := blk_at hS5 0 _ rfl
    have f5 := blk_free hS5 0
    go_wp2_with first | refine wpList_store_run rfl 53 (.tmp 4) (.tmp 18) rfl _ _ _ rfl rfl hst ?_
    have hg5' : (W0.setRow g4 #[.int .i64 0, .int .i64 0, .int .i64 0, .bool false]).grownBy ((W0.setRow g4 #[.int .i64 0, .int .i64 0, .int .i64 0, .bool false]).setCell ⟨g5, 0, none⟩ (.bool false)) (some g5) := gset _ ⟨g5, 0, none⟩ _
    have V4 := blk_grown hS4 hg5' (fun e => hn45 (by cases e; rfl))
    have V5 : ((W0.setRow g4 #[.int .i64 0, .int .i64 0, .int .i64 0, .bool false]).setCell ⟨g5, 0, none⟩ (.bool false)).heap[g5]? = some (.cells #[.bool false] 4 (0, 0)) := blk_set hS5 0 _
    have hXV := (hX0.grown (gsetRow W0 g4 #[.int .i64 0, .int .i64 0, .int .i64 0, .bool false]) (fun k e => by cases e; exact hl4)).grown hg5' (fun k e => by cases e; exact hl5)
    obtain ⟨k0, k1, k2, k3⟩ := blkR V4
    have k5 := blk_at V5 0 _ rfl
    exact ⟨.tuple #[.agg #[.int .i64 0, .int .i64 0, .int .i64 0, .bool false], .bool false], by simp [results, Try.results36, go_sem, k0, k1, k2, k3, k5], zeroR, false, rfl, by unfold atL; rw [if_pos (.inl h1)], hXV⟩
  have d1 : decide (addr < t.lo) = false := by simpa using h1
  by_cases h2 : t.hi ≤ addr
  case pos =>
    have d2 : decide (t.hi ≤ addr) = true := by simpa using h2
    have hst := run_storeAt_blk (P := Try.prog) W0 g4 53 53 _ #[.int .i64 0, .int .i64 0, .int .i64 0, .bool false] hB4 rw_size rfl (by simp [Value.oneCell'])
    have hn45 := blk_ne hB4 e5 (by decide)
    have hS5 := blk_grown e5 (gsetRow W0 g4 #[.int .i64 0, .int .i64 0, .int .i64 0, .bool false]) (fun e => hn45 (by cases e; rfl))
    have hS4 : (W0.setRow g4 #[.int .i64 0, .int .i64 0, .int .i64 0, .bool false]).heap[g4]? = some (.cells #[.int .i64 0, .int .i64 0, .int .i64 0, .bool false] 53 (0, 0)) := setRow_heap _ _ _ _ _ _ hB4
    have p5 := blk_at hS5 0 _ rfl
    have f5 := blk_free hS5 0
    go_wp2_with first | refine wpList_store_run rfl 53 (.tmp 4) (.tmp 18) rfl _ _ _ rfl rfl hst ?_
    have hg5' : (W0.setRow g4 #[.int .i64 0, .int .i64 0, .int .i64 0, .bool false]).grownBy ((W0.setRow g4 #[.int .i64 0, .int .i64 0, .int .i64 0, .bool false]).setCell ⟨g5, 0, none⟩ (.bool false)) (some g5) := gset _ ⟨g5, 0, none⟩ _
    have V4 := blk_grown hS4 hg5' (fun e => hn45 (by cases e; rfl))
    have V5 : ((W0.setRow g4 #[.int .i64 0, .int .i64 0, .int .i64 0, .bool false]).setCell ⟨g5, 0, none⟩ (.bool false)).heap[g5]? = some (.cells #[.bool false] 4 (0, 0)) := blk_set hS5 0 _
    have hXV := (hX0.grown (gsetRow W0 g4 #[.int .i64 0, .int .i64 0, .int .i64 0, .bool false]) (fun k e => by cases e; exact hl4)).grown hg5' (fun k e => by cases e; exact hl5)
    obtain ⟨k0, k1, k2, k3⟩ := blkR V4
    have k5 := blk_at V5 0 _ rfl
    exact ⟨.tuple #[.agg #[.int .i64 0, .int .i64 0, .int .i64 0, .bool false], .bool false], by simp [results, Try.results36, go_sem, k0, k1, k2, k3, k5], zeroR, false, rfl, by unfold atL; rw [if_pos (.inr h2)], hXV⟩
  have d2 : decide (t.hi ≤ addr) = false := by simpa using h2
  go_wp2_with fail
  refine (bwdRow_any A2 t.rows.length c2 W0).mono ?_
  rintro en W5 ⟨rfl, hW5⟩
  have hX5 : Ext W0 W5 := by rw [hW5]; exact (Ext.refl W0).alloc _
  have hB6 : W5.heap[W0.heap.size]? = some (.cells #[.slice A2 t.rows.length c2] 44 (0, 0)) := by rw [hW5]; exact heap_alloc_new W0 _
  obtain ⟨g6, hg6⟩ : ∃ g, g = W0.heap.size := ⟨_, rfl⟩
  rw [← hg6] at hB6 ⊢
  clear hW5 hg6 q0 q1 q2 q3 hls
  have hC3 := hX5.heap hB3
  have hC4 := hX5.heap hB4
  have hC5 := hX5.heap e5
  have hX05 := hX0.trans hX5
  have q6 := blk_at hB6 0 _ rfl
  have hl6 := heap_lt hB6
  have HN1 := Lib.hid h1
  have HN2 := Lib.hid h2
  clear h1 h2 hB2 hB3 hB4 e5 hX0 hX5 hB6
  have hin5 := hy.ext hX05
  go_wp2_with fail
  refine (wpIn_wide (n := 5)).1 ?_
  refine wpIn_rangeFunc_ownH (F := Fence.wide) rfl (by omega) (gf := 88) (lb := #[.pointer (some ⟨g6, 0, none⟩)]) rfl trivial (enters_of Try.func88 (by kernel_rfl) rfl)
    (bwdRow_stops Fence.wide 4 trivial rfl (by omega) g6 W5 _ t.rows hin5 hlen hl6 q6) belowK_t (belowK_b (Nat.le_refl _)) (Below.refl _ _) (fun _ => rfl)
    (fun pre W => AtI addr pre ∧ Below W5.heap.size W5 W)
    (fun cc pre W => AtX addr g4 g5 cc pre W ∧ Below w.heap.size w W)
    (OwnFrom.and (ownFrom_pure _ _) (ownFrom_below (Nat.le_refl _) (Nat.le_refl _)))
    (fun cc => OwnFrom.and (fun s W W' row hs hg hr => by
      obtain ⟨x, pre', hh, k4, k5⟩ := hs
      exact ⟨x, pre', hh, own_blk g4 (fun (_ : Unit) => #[.int .i64 x.2.addr, .int .i64 x.2.ctx, .int .i64 x.2.stmt, .bool x.2.mark]) 53 (0, 0) () W W' row k4 hg (fun r e => (hr r e).2), own_blk g5 (fun (_ : Unit) => #[.bool true]) 4 (0, 0) () W W' row k5 hg (fun r e => (hr r e).2)⟩) (ownFrom_below (Nat.le_refl _) hX05.size))
    ⟨fun x hx => by simp at hx, Below.refl _ _⟩
    (fun x a' W => ∃ Bx, W.heap[Bx]? = some (.cells #[.int .i64 x.2.addr, .int .i64 x.2.ctx, .int .i64 x.2.stmt, .bool x.2.mark] 53 (0, 0)) ∧ a' = { tmps := #[.agg #[.int .i64 t.lo, .int .i64 t.hi, .slice A2 t.rows.length c2], .int .i64 addr, .pointer (some ⟨g2, 0, none⟩), .pointer (some ⟨g3, 0, none⟩), .pointer (some ⟨g4, 0, none⟩), .pointer (some ⟨g5, 0, none⟩), undef, .pointer (some ⟨Bx, 0, none⟩), .int .i64 addr, .pointer (some ⟨g2, 0, none⟩), .int .i64 t.lo, .bool false, .bool false, .int .i64 addr, .pointer (some ⟨g2, 1, none⟩), .int .i64 t.hi, .bool false, .bool false, undef, .pointer (some ⟨g2, 2, none⟩), .slice A2 t.rows.length c2, .func (.func 88) #[] #[.pointer (some ⟨g6, 0, none⟩)], .int .i64 (x.1 : Int), .agg #[.int .i64 x.2.addr, .int .i64 x.2.ctx, .int .i64 x.2.stmt, .bool x.2.mark], undef, undef, undef, undef, undef, undef], defers := [] })
    (fun x a' _ X Y row hs hg hr => by
      obtain ⟨Bx, e1, e2⟩ := hs
      exact ⟨Bx, own_blk Bx (fun (_ : Unit) => #[.int .i64 x.2.addr, .int .i64 x.2.ctx, .int .i64 x.2.stmt, .bool x.2.mark]) 53 (0, 0) () X Y row e1 hg (fun r e => (hr r e).2), e2⟩)
    ?assign ?body ?done ?stop
  case assign =>
    rintro l pre x W K ⟨hp, hBW⟩ hK
    obtain ⟨hst, hG, hXG⟩ := box_new (P := Try.prog) W 53 #[.int .i64 0, .int .i64 0, .int .i64 0, .bool false] #[.int .i64 x.2.addr, .int .i64 x.2.ctx, .int .i64 x.2.stmt, .bool x.2.mark] rw_size rfl (by simp [Value.oneCell'])
    gi_wp2_with first | refine wpListIn_store_run rfl 53 (.tmp 7) (.tmp 23) rfl _ _ _ rfl rfl hst ?_
    exact hK _ _ (keeps_ext hXG) (Below.mono hXG hBW.size) ⟨hp, Ext.trans hBW hXG⟩ ⟨W.heap.size, hG, rfl⟩
  case body =>
    rintro l pre x a' W hl ⟨r0, hr0⟩ ⟨hp, hBW⟩ ⟨Bx, kx, rfl⟩ hlt
    have k3 := Ext.heap hBW hC3
    have k4 := Ext.heap hBW hC4
    have k5 := Ext.heap hBW hC5
    obtain ⟨x0, x1, x2, x3⟩ := blkR kx
    have y3 := blk_at k3 0 _ rfl
    have HPI := Lib.hid hp
    by_cases hxa : x.2.addr ≤ addr
    case neg =>
      have d : decide (x.2.addr ≤ addr) = false := by simpa using hxa
      have HI2 := Lib.hid (hp.snoc hxa)
      gi_wp2
      exact ⟨KeepsFrom.refl _ _, Below.refl _ _, HI2.out, hBW⟩
    have d : decide (x.2.addr ≤ addr) = true := by simpa using hxa
    have hldr := run_loadAt_blk (P := Try.prog) W Bx 53 53 _ (0, 0) _ kx Try.underlying53 rfl rw_size
    have hstr := run_storeAt_blk (P := Try.prog) W g4 53 53 _ #[.int .i64 x.2.addr, .int .i64 x.2.ctx, .int .i64 x.2.stmt, .bool x.2.mark] k4 rw_size rfl (by simp [Value.oneCell'])
    have hn45 := blk_ne k4 k5 (by decide)
    have hS5 := blk_grown k5 (gsetRow W g4 #[.int .i64 x.2.addr, .int .i64 x.2.ctx, .int .i64 x.2.stmt, .bool x.2.mark]) (fun e => hn45 (by cases e; rfl))
    have hS4 : (W.setRow g4 #[.int .i64 x.2.addr, .int .i64 x.2.ctx, .int .i64 x.2.stmt, .bool x.2.mark]).heap[g4]? = some (.cells #[.int .i64 x.2.addr, .int .i64 x.2.ctx, .int .i64 x.2.stmt, .bool x.2.mark] 53 (0, 0)) := setRow_heap _ _ _ _ _ _ k4
    have p5 := blk_at hS5 0 _ rfl
    have f5 := blk_free hS5 0
    gi_wp2_with first | refine wpListIn_load_run rfl 53 (.tmp 7) rfl _ _ rfl hldr ?_ | refine wpListIn_store_run rfl 53 (.tmp 4) (.tmp 28) rfl _ _ _ rfl rfl hstr ?_
    have hg5' : (W.setRow g4 #[.int .i64 x.2.addr, .int .i64 x.2.ctx, .int .i64 x.2.stmt, .bool x.2.mark]).grownBy ((W.setRow g4 #[.int .i64 x.2.addr, .int .i64 x.2.ctx, .int .i64 x.2.stmt, .bool x.2.mark]).setCell ⟨g5, 0, none⟩ (.bool true)) (some g5) := gset _ ⟨g5, 0, none⟩ _
    have V4 := blk_grown hS4 hg5' (fun e => hn45 (by cases e; rfl))
    have V5 : ((W.setRow g4 #[.int .i64 x.2.addr, .int .i64 x.2.ctx, .int .i64 x.2.stmt, .bool x.2.mark]).setCell ⟨g5, 0, none⟩ (.bool true)).heap[g5]? = some (.cells #[.bool true] 4 (0, 0)) := blk_set hS5 0 _
    exact ⟨((keeps_blk k4 (gsetRow W g4 #[.int .i64 x.2.addr, .int .i64 x.2.ctx, .int .i64 x.2.stmt, .bool x.2.mark])).trans (keeps_blk hS5 hg5')).from _, ⟨x, pre, ⟨rfl, rfl, hxa, HPI.out⟩, V4, V5⟩, ((hX05.trans hBW).grown (gsetRow W g4 #[.int .i64 x.2.addr, .int .i64 x.2.ctx, .int .i64 x.2.stmt, .bool x.2.mark]) (fun k e => by cases e; exact hl4)).grown hg5' (fun k e => by cases e; exact hl5)⟩
  case done =>
    rintro D ys W hD hys ⟨hp, hBW⟩ hK
    have j4 := Ext.heap hBW hC4
    have j5 := Ext.heap hBW hC5
    have hst := run_storeAt_blk (P := Try.prog) W g4 53 53 _ #[.int .i64 0, .int .i64 0, .int .i64 0, .bool false] j4 rw_size rfl (by simp [Value.oneCell'])
    have hn45 := blk_ne j4 j5 (by decide)
    have hS5 := blk_grown j5 (gsetRow W g4 #[.int .i64 0, .int .i64 0, .int .i64 0, .bool false]) (fun e => hn45 (by cases e; rfl))
    have hS4 : (W.setRow g4 #[.int .i64 0, .int .i64 0, .int .i64 0, .bool false]).heap[g4]? = some (.cells #[.int .i64 0, .int .i64 0, .int .i64 0, .bool false] 53 (0, 0)) := setRow_heap _ _ _ _ _ _ j4
    have p5 := blk_at hS5 0 _ rfl
    have f5 := blk_free hS5 0
    go_wp2_with first | refine wpList_store_run rfl 53 (.tmp 4) (.tmp 29) rfl _ _ _ rfl rfl hst ?_
    have hg5' : (W.setRow g4 #[.int .i64 0, .int .i64 0, .int .i64 0, .bool false]).grownBy ((W.setRow g4 #[.int .i64 0, .int .i64 0, .int .i64 0, .bool false]).setCell ⟨g5, 0, none⟩ (.bool false)) (some g5) := gset _ ⟨g5, 0, none⟩ _
    have V4 := blk_grown hS4 hg5' (fun e => hn45 (by cases e; rfl))
    have V5 : ((W.setRow g4 #[.int .i64 0, .int .i64 0, .int .i64 0, .bool false]).setCell ⟨g5, 0, none⟩ (.bool false)).heap[g5]? = some (.cells #[.bool false] 4 (0, 0)) := blk_set hS5 0 _
    have hK' := ((keeps_blk j4 (gsetRow W g4 #[.int .i64 0, .int .i64 0, .int .i64 0, .bool false])).trans (keeps_blk hS5 hg5')).same D _ hK rfl
    have hXV := ((hX05.trans hBW).grown (gsetRow W g4 #[.int .i64 0, .int .i64 0, .int .i64 0, .bool false]) (fun k e => by cases e; exact hl4)).grown hg5' (fun k e => by cases e; exact hl5)
    generalize (W.setRow g4 #[.int .i64 0, .int .i64 0, .int .i64 0, .bool false]).setCell ⟨g5, 0, none⟩ (.bool false) = VV at *
    have nk : D ≠ g4 := fun e => by rw [e, V4] at hK'; cases hK'
    have nk5 : D ≠ g5 := fun e => by rw [e, V5] at hK'; cases hK'
    have hgd := grownBy_putObj' VV D (.deferred none)
    have U4 := blk_grown V4 hgd (fun e => nk (by cases e; rfl))
    have U5 := blk_grown V5 hgd (fun e => nk5 (by cases e; rfl))
    obtain ⟨k0, k1, k2, k3⟩ := blkR U4
    have k5 := blk_at U5 0 _ rfl
    refine ⟨by simp, .inl ⟨_, _, rfl, run_takeDeferred hK', ?_⟩⟩
    exact ⟨.tuple #[.agg #[.int .i64 0, .int .i64 0, .int .i64 0, .bool false], .bool false], by simp [results, Try.results36, go_sem, k0, k1, k2, k3, k5], zeroR, false, rfl, atL_none (by have := HN1.out; omega) (by have := HN2.out; omega) hys hp, hXV.grown hgd (fun k e => by cases e; exact Nat.le_trans hX05.size hD)⟩
  case stop =>
    rintro D cc pre W hD hpre ⟨⟨x, pre', ⟨rfl, rfl, hx, hz⟩, V4, V5⟩, hXV⟩ hK'
    refine wpIn_wide.2 ?_
    go_wp2_with fail
    have nk : D ≠ g4 := fun e => by rw [e, V4] at hK'; cases hK'
    have nk5 : D ≠ g5 := fun e => by rw [e, V5] at hK'; cases hK'
    have hgd := grownBy_putObj' W D (.deferred none)
    have U4 := blk_grown V4 hgd (fun e => nk (by cases e; rfl))
    have U5 := blk_grown V5 hgd (fun e => nk5 (by cases e; rfl))
    obtain ⟨k0, k1, k2, k3⟩ := blkR U4
    have k5 := blk_at U5 0 _ rfl
    refine ⟨by simp, .inl ⟨_, _, rfl, run_takeDeferred hK', ?_⟩⟩
    exact ⟨.tuple #[.agg #[.int .i64 x.2.addr, .int .i64 x.2.ctx, .int .i64 x.2.stmt, .bool x.2.mark], .bool true], by simp [results, Try.results36, go_sem, k0, k1, k2, k3, k5], x.2, true, rfl, atL_some (by have := HN1.out; omega) (by have := HN2.out; omega) hpre hx hz, Ext.grown hXV hgd (fun k e => by cases e; exact Nat.le_trans hX05.size hD)⟩
end Go.Proofs.Ytokmbdeafjmcjaa
