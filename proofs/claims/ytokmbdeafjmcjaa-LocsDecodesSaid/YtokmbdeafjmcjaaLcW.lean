/- The numbers that the statements about location lists are made from: reader.next; boxes. -/
import Derived.Test.YtokmbdeafjmcjaaLcL
import Derived.Test.YtokmbdeafjmcjaaLcN
import Derived.Test.YtokmbdeafjmcjaaKit
import Derived.Test.YtokmbdeafjmcjaaRegion4
namespace Go.Proofs.Ytokmbdeafjmcjaa
open Go.RowKit
set_option linter.unusedVariables false
set_option linter.unusedSimpArgs false

/-- a box of the call's own, made since the world w; but for it and the reader, w's blocks are as they were -/
structure BX (T : TypeId) (w : World) (gr g : Nat) (C : Array Value) (W : World) : Prop where
  box : W.heap[g]? = some (.cells C T (0, 0))
  kept : Kept w.heap.size [gr] w W
  low : w.heap.size ≤ g ∧ gr < w.heap.size
section
variable {T : TypeId} {w W W' : World} {gr g : Nat} {C : Array Value}
theorem BX.next (h : BX T w gr g C W) (hk : Kept W.heap.size [gr] W W') : BX T w gr g C W' := by
  have hlow := h.low
  exact ⟨hk.heap h.box (heap_lt h.box) (fun hm => by simp only [List.mem_cons, List.not_mem_nil, or_false] at hm; omega), h.kept.drop1 hk, h.low⟩
theorem BX.ext (h : BX T w gr g C W) (he : Ext W W') : BX T w gr g C W' := h.next (Kept.of_ext he (Nat.le_refl _))
theorem BX.grown (h : BX T w gr g C W) {row : Option Nat} (hg : W.grownBy W' row) (h2 : some g ≠ row) (hl : ∀ k, row = some k → w.heap.size ≤ k ∨ k = gr) : BX T w gr g C W' :=
  ⟨blk_grown h.box hg h2, h.kept.trans (Kept.of_grown hg h.kept.size (fun k e => (hl k e).imp id (fun e2 => by simp [e2]))), h.low⟩
theorem BX.reader (h : BX T w gr g C W) (hg : W.grownBy W' (some gr)) : BX T w gr g C W' := by
  have hlow := h.low
  exact h.grown hg (fun e => by cases e; omega) (fun k e => by cases e; exact .inr rfl)
theorem BX.put (h : BX T w gr g C W) (j : Nat) (v : Value) : BX T w gr g (C.setIfInBounds j v) (W.setCell ⟨g, j, none⟩ v) :=
  ⟨blk_set h.box j v, h.kept.trans (Kept.of_grown (gset W ⟨g, j, none⟩ v) h.kept.size (fun k e => by cases e; exact .inl h.low.1)), h.low⟩
theorem BX.new (gr : Nat) {w : World} (hgr : gr < w.heap.size) {z : Array Value} {W : World} {C : Array Value} {T : TypeId} {g : Nat} (hb : W.heap[g]? = some (.cells C T (0, 0))) (hx : Ext w W) (hg : w.heap.size ≤ g) : BX T w gr g C W :=
  ⟨hb, Kept.of_ext hx (Nat.le_refl _), hg, hgr⟩
theorem BX.toExt (h : BX T w gr g C W) {w0 : World} (he : Ext w0 w) (hl : w0.heap.size ≤ gr) : Ext w0 W := h.kept.ext he he.size (fun i hi => by simp only [List.mem_cons, List.not_mem_nil, or_false] at hi; subst hi; exact hl)
end
theorem Kept.rngsT {b0 gr : Nat} {w W : World} {v : Value} {l : List Rng} {C : Array Value} {fr : Nat × Nat} (h : Kept w.heap.size [gr] w W) (ho : RngsOwn b0 w v l) (hr : w.heap[gr]? = some (.cells C 114 fr)) : RngsOwn b0 W v l := by
  obtain ⟨zs, h1, h2, h3⟩ := ho
  exact ⟨zs, h1, h.own1 h2 hr (by decide), fun z hz => h.own1 (h3 z hz) hr (by decide)⟩
theorem Kept.pownT {b0 gr : Nat} {w W : World} {v : Value} {l : List PTab} {C : Array Value} {fr : Nat × Nat} (h : Kept w.heap.size [gr] w W) (ho : POwn b0 w v l) (hr : w.heap[gr]? = some (.cells C 114 fr)) : POwn b0 W v l := by
  obtain ⟨zs, h1, h2, h3⟩ := ho
  exact ⟨zs, h1, h.own1 h2 hr (by decide), fun z hz => h.rngsT (h3 z hz) hr⟩
theorem blkD {w : World} {g : Nat} {a b : Value} {t : TypeId} (H : w.heap[g]? = some (.cells #[a, b] t (0, 0))) :
    w.cell? ⟨g, 0, none⟩ = some a ∧ w.cell? ⟨g, 1, none⟩ = some b := ⟨blk_at H 0 _ rfl, blk_at H 1 _ rfl⟩
def stepN (n at_ : Nat) : Nat := if at_ < n then at_ + 1 else at_
/-- a number is read: any number below k -/
def NextPost (gr : Nat) (x : Value) (n at_ : Nat) (k : Int) (w : World) (en : Ending) (w' : World) : Prop :=
  ∃ v : Int, en = .returned (.int .i64 v) ∧ (0 ≤ v ∧ v < k) ∧ w'.heap[gr]? = some (.cells #[x, .int .i64 ((stepN n at_ : Nat) : Int)] 114 (0, 0)) ∧ w.grownBy w' (some gr)
set_option maxHeartbeats 4000000 in
set_option maxRecDepth 100000 in
theorem next19_any (gr : Nat) (x : Value) (nums : List Int) (at_ : Nat) (k : Int) (W : World) (hx : St [gr] W (fun W => InI W x nums)) (hb : W.heap[gr]? = some (.cells #[x, .int .i64 (at_ : Int)] 114 (0, 0))) (hk : 0 < k ∧ k ≤ 4611686018427387904) (hn : nums.length ≤ 1000) (ha : at_ ≤ 1000) :
    Calls Try.prog 68 #[.pointer (some ⟨gr, 0, none⟩), .int .i64 k] W (NextPost gr x nums.length at_ k W) := by
  obtain ⟨A, c, rfl, _, _⟩ := id (hx W (Kept.refl _ _ _))
  obtain ⟨n, hnn⟩ : ∃ n, n = nums.length := ⟨_, rfl⟩
  rw [← hnn] at hn hb hx ⊢
  have HNN := Lib.hid hnn
  have HX := Lib.hid hx
  clear hnn hx
  obtain ⟨q0, q1⟩ := blkD hb
  go_enter Try.func68, Try.ntmps68
  go_upto_region 1 with fail
  by_cases hlt : at_ < n
  case neg =>
    have hle : n ≤ at_ := by omega
    have HST : Hid (stepN n at_ = at_) := Lib.hid (by unfold stepN; rw [if_neg hlt])
    clear hlt
    go_quiet (fail)
    have hg := ((Ext.refl W).drewN nq).grownBy (some gr)
    have hb2 := ((Ext.refl W).drewN nq).heap hb
    generalize W.drewN nq = w1 at *
    go_wp2_with fail
    refine bodyPost_ret (by simp [results, Try.results68, go_sem]; rfl) rfl ?_
    exact ⟨0, rfl, by omega, by rw [HST.out]; exact hb2, hg⟩
  have hle : ¬ n ≤ at_ := by omega
  have HST : Hid (stepN n at_ = at_ + 1) := Lib.hid (by unfold stepN; rw [if_pos hlt])
  go_quiet (fail)
  have hX1 := (Ext.refl W).drewN nq
  have hb1 := hX1.heap hb
  generalize W.drewN nq = w1 at *
  clear q0 q1
  obtain ⟨q0, q1⟩ := blkD hb1
  obtain ⟨a1, ha1⟩ : ∃ a1, a1 = at_ + 1 := ⟨_, rfl⟩
  have hw1 : IntKind.i64.wrap ((at_ : Int) + 1) = (a1 : Int) := by rw [IntKind.wrap_i64]; omega
  have hw2 : IntKind.i64.wrap ((a1 : Int) - 1) = (at_ : Int) := by rw [IntKind.wrap_i64]; omega
  have HA1 := Lib.hid ha1
  have f1 := blk_free hb1 1
  have hlt1 := heap_lt hb1
  clear ha1
  go_upto_region 4 with fail
  have s1 := gset w1 ⟨gr, 1, none⟩ (.int .i64 (a1 : Int))
  have hb2 : (w1.setCell ⟨gr, 1, none⟩ (.int .i64 (a1 : Int))).heap[gr]? = some (.cells #[.slice A n c, .int .i64 (a1 : Int)] 114 (0, 0)) := blk_set hb1 1 _
  have hg2 := gtrans (hX1.grownBy (some gr)) s1
  have hin := HX.out _ (Kept.of_grown hg2 (Nat.le_refl _) (fun k e => by cases e; exact .inr (by simp)))
  clear hb hb1 hX1 s1 q0 q1 f1 hlt1
  generalize w1.setCell ⟨gr, 1, none⟩ (.int .i64 (a1 : Int)) = w2 at *
  obtain ⟨AI, cI, eI, _, hrd⟩ := hin
  rw [← HNN.out] at eI
  injection eI with e1 e2 e3
  subst e1 e3
  clear e2
  obtain ⟨b, o, rfl, hcl⟩ := hrd.at2 (k := at_) (by rw [List.length_map, ← HNN.out]; exact hlt)
  obtain ⟨q, hq⟩ : ∃ q : Int, w2.cell? ⟨b, o + at_, none⟩ = some (.int .i64 q) := ⟨nums[at_]'(by rw [← HNN.out]; exact hlt), by rw [hcl]; simp [iv]⟩
  clear hcl hrd
  obtain ⟨q0, q1⟩ := blkD hb2
  refine wp_region_X #[true, true, true, true, true, true, true, true, true, true, true, true, true, false] 13 1 (by kernel_rfl) rfl ?_
  refine wpX_v 0 (.pointer (some ⟨gr, 0, none⟩)) rfl rfl (by kernel_rfl) (by kernel_rfl) (by kernel_rfl) (fun _ _ _ _ h => h) (by kernel_rfl) rfl (by rfl) (fun W' hW => by
    skip
    go_simp) ?_
  simp only [List.setIfInBounds_toArray, List.set_cons_zero, List.set_cons_succ]
  refine wpX_v 1 (.pointer (some ⟨gr, 0, none⟩)) rfl rfl (by kernel_rfl) (by kernel_rfl) (by kernel_rfl) (fun _ _ _ _ h => h) (by kernel_rfl) rfl (by rfl) (fun W' hW => by
    skip
    go_simp) ?_
  simp only [List.setIfInBounds_toArray, List.set_cons_zero, List.set_cons_succ]
  refine wpX_v 2 (.pointer (some ⟨gr, 0, none⟩)) rfl rfl (by kernel_rfl) (by kernel_rfl) (by kernel_rfl) (fun _ _ _ _ h => h) (by kernel_rfl) rfl (by rfl) (fun W' hW => by
    skip
    go_simp) ?_
  simp only [List.setIfInBounds_toArray, List.set_cons_zero, List.set_cons_succ]
  refine wpX_v 3 (.slice (some ⟨b, o, none⟩) n c) rfl rfl (by kernel_rfl) (by kernel_rfl) (by kernel_rfl) (fun _ _ _ _ h => h) (by kernel_rfl) rfl (by rfl) (fun W' hW => by
    have z := (((Ext.refl w2).drew).trans hW).cell q0
    go_simp) ?_
  simp only [List.setIfInBounds_toArray, List.set_cons_zero, List.set_cons_succ]
  refine wpX_v 4 (.pointer (some ⟨gr, 0, none⟩)) rfl rfl (by kernel_rfl) (by kernel_rfl) (by kernel_rfl) (fun _ _ _ _ h => h) (by kernel_rfl) rfl (by rfl) (fun W' hW => by
    skip
    go_simp) ?_
  simp only [List.setIfInBounds_toArray, List.set_cons_zero, List.set_cons_succ]
  refine wpX_v 5 (.pointer (some ⟨gr, 0, none⟩)) rfl rfl (by kernel_rfl) (by kernel_rfl) (by kernel_rfl) (fun _ _ _ _ h => h) (by kernel_rfl) rfl (by rfl) (fun W' hW => by
    skip
    go_simp) ?_
  simp only [List.setIfInBounds_toArray, List.set_cons_zero, List.set_cons_succ]
  refine wpX_v 6 (.pointer (some ⟨gr, 1, none⟩)) rfl rfl (by kernel_rfl) (by kernel_rfl) (by kernel_rfl) (fun _ _ _ _ h => h) (by kernel_rfl) rfl (by rfl) (fun W' hW => by
    skip
    go_simp) ?_
  simp only [List.setIfInBounds_toArray, List.set_cons_zero, List.set_cons_succ]
  refine wpX_v 7 (.int .i64 (a1 : Int)) rfl rfl (by kernel_rfl) (by kernel_rfl) (by kernel_rfl) (fun _ _ _ _ h => h) (by kernel_rfl) rfl (by rfl) (fun W' hW => by
    have z := (((Ext.refl w2).drew).trans hW).cell q1
    go_simp) ?_
  simp only [List.setIfInBounds_toArray, List.set_cons_zero, List.set_cons_succ]
  refine wpX_v 8 (.int .i64 (at_ : Int)) rfl rfl (by kernel_rfl) (by kernel_rfl) (by kernel_rfl) (fun _ _ _ _ h => h) (by kernel_rfl) rfl (by rfl) (fun W' hW => by
    skip
    go_simp) ?_
  simp only [List.setIfInBounds_toArray, List.set_cons_zero, List.set_cons_succ]
  refine wpX_v 9 (.pointer (some ⟨b, o + at_, none⟩)) rfl rfl (by kernel_rfl) (by kernel_rfl) (by kernel_rfl) (fun _ _ _ _ h => h) (by kernel_rfl) rfl (by rfl) (fun W' hW => by
    skip
    go_simp) ?_
  simp only [List.setIfInBounds_toArray, List.set_cons_zero, List.set_cons_succ]
  refine wpX_v 10 (.int .i64 q) rfl rfl (by kernel_rfl) (by kernel_rfl) (by kernel_rfl) (fun _ _ _ _ h => h) (by kernel_rfl) rfl (by rfl) (fun W' hW => by
    have z := (((Ext.refl w2).drew).trans hW).cell hq
    go_simp) ?_
  simp only [List.setIfInBounds_toArray, List.set_cons_zero, List.set_cons_succ]
  refine wpX_v 11 (.int .i64 k) rfl rfl (by kernel_rfl) (by kernel_rfl) (by kernel_rfl) (fun _ _ _ _ h => h) (by kernel_rfl) rfl (by rfl) (fun W' hW => by
    skip
    go_simp) ?_
  simp only [List.setIfInBounds_toArray, List.set_cons_zero, List.set_cons_succ]
  refine wpX_c 12 20 #[.int .i64 q, .int .i64 k] rfl rfl (by kernel_rfl) rfl rfl (fun W => by go_simp) ?_
  intro W3 hW3
  have hX3 := ((Ext.refl w2).drew).trans hW3
  refine (Mod_any q k W3 hk.1 hk.2).mono ?_
  rintro en w4 ⟨rfl, rfl⟩
  refine ⟨_, rfl, Ext.refl _, ?_⟩
  simp only [List.setIfInBounds_toArray, List.set_cons_zero, List.set_cons_succ]
  refine wpX_end rfl fun W4 hW4 => tail_seq 13 rfl (by kernel_rfl) ?_
  simp only [List.drop_succ_cons, List.drop_zero]
  have hX4 := hX3.trans hW4
  have hb4 := hX4.heap hb2
  have hg4 := gtrans hg2 (hX4.grownBy (some gr))
  obtain ⟨v, hv, hvr⟩ : ∃ v, v = q % k ∧ (0 ≤ v ∧ v < k) := ⟨_, rfl, Int.emod_nonneg _ (by omega), Int.emod_lt_of_pos _ hk.1⟩
  rw [← hv]
  clear hW3 hX3 hW4 hX4 hb2 hg2 q0 q1 hq hv
  go_wp2_with fail
  refine NoPanic.normal ?_
  go_wp2_with fail
  refine bodyPost_ret (by simp [results, Try.results68, go_sem]; rfl) rfl ?_
  exact ⟨v, rfl, hvr, by rw [HST.out, ← HA1.out]; exact hb4, hg4⟩
end Go.Proofs.Ytokmbdeafjmcjaa
/- The location lists that the statements make from numbers: what holds of them (plain). -/
namespace Go.Proofs.Ytokmbdeafjmcjaa
open Go.RowKit
set_option linter.unusedVariables false
set_option linter.unusedSimpArgs false

/-- a place that is made -/
def madeP (p : Plc) : Prop := okPlc p ∧ I64 p.add
/-- a range that is made -/
def madeR (lo a : Int) (r : Rng) : Prop := (lo ≤ r.lo ∧ r.lo ≤ a ∧ r.hi = r.lo + 1) ∧ (0 ≤ r.ctx ∧ r.ctx ≤ 255) ∧ (0 ≤ r.var ∧ r.var < 24) ∧ (0 ≤ r.piece ∧ r.piece < 4) ∧ (1 ≤ r.places.length ∧ r.places.length ≤ 3) ∧ ∀ p ∈ r.places, madeP p
structure GRs (lo a : Int) (rs : List Rng) : Prop where
  all : ∀ r ∈ rs, madeR lo a r
  asc : rs.Pairwise (fun x y => x.lo < y.lo)
  at_ : lo ≤ a
theorem GRs.start (lo : Int) : GRs lo lo [] := ⟨by simp, List.Pairwise.nil, Int.le_refl _⟩
theorem GRs.push {lo a a' : Int} {rs : List Rng} {r : Rng} (h : GRs lo a rs) (ha : a < a') (hr : madeR lo a' r) (he : r.lo = a') : GRs lo a' (rs ++ [r]) := by
  refine ⟨fun x hx => ?_, List.pairwise_append.2 ⟨h.asc, List.pairwise_singleton _ _, fun x hx y hy => ?_⟩, by have := h.at_; omega⟩
  · rcases List.mem_append.1 hx with hx | hx
    · have := h.all x hx
      unfold madeR at this ⊢
      exact ⟨by omega, this.2⟩
    · simp only [List.mem_singleton] at hx
      subst hx
      exact hr
  · simp only [List.mem_singleton] at hy
    subst hy
    have := (h.all x hx).1
    omega
theorem endOf_mem {l : List Rng} {k : Int × Int × Int} {e : Int} (h : endOf l k = some e) : ∃ p ∈ l, p.hi = e := by
  unfold endOf at h
  cases hg : (l.filter fun r => decide (pcOf r = k)).getLast? with
  | none => rw [hg] at h; cases h
  | some p =>
    rw [hg] at h
    simp only [Option.map_some, Option.some.injEq] at h
    exact ⟨p, (List.mem_filter.1 (List.mem_of_getLast? hg)).1, h⟩
theorem GRs.okR {lo a : Int} {rs : List Rng} (h : GRs lo a rs) : okRngs lo (a + 1) rs := by
  have asc : ∀ (i : Nat) (hi : i < rs.length), ∀ p ∈ rs.take i, p.lo < rs[i].lo := fun i hi p hp => by
    obtain ⟨j, hj, rfl⟩ := List.getElem_of_mem hp
    rw [List.length_take] at hj
    rw [List.getElem_take]
    exact (List.pairwise_iff_getElem.1 h.asc) j i (by omega) hi (by omega)
  intro i hi
  have h1 := h.all _ (List.getElem_mem hi)
  have h2 := asc i hi
  unfold madeR at h1
  refine ⟨by unfold okNum; omega, ⟨by omega, by omega, fun p hp => (h1.2.2.2.2.2 p hp).1⟩, fun p hp => ?_, fun e he => ?_⟩
  · have := h2 p (List.mem_of_getLast? hp)
    unfold ltK
    omega
  · obtain ⟨p, hp, rfl⟩ := endOf_mem he
    have h3 := h2 p hp
    have h4 := (h.all p (List.mem_of_mem_take hp)).1
    omega
/-- where the latest list ends -/
def lastHi (was : Int) : List PTab → Int
  | [] => was
  | t :: l => lastHi t.hi l
theorem lastHi_snoc (t : PTab) : ∀ (l : List PTab) (was : Int), lastHi was (l ++ [t]) = t.hi
  | [], _ => rfl
  | x :: l, was => lastHi_snoc t l x.hi
theorem okPs_snoc (t : PTab) : ∀ (l : List PTab) (was : Int), okPs was (l ++ [t]) ↔ okPs was l ∧ okP (lastHi was l) t ∧ okRngs t.lo t.hi t.ranges
  | [], was => by simp [okPs, lastHi]
  | x :: l, was => by
    simp only [List.cons_append, okPs, lastHi, okPs_snoc t l x.hi]
    exact ⟨fun ⟨a, b, c, d⟩ => ⟨⟨a, b, c⟩, d⟩, fun ⟨⟨a, b, c⟩, d⟩ => ⟨a, b, c, d⟩⟩
theorem rngsN_snoc (l : List PTab) (t : PTab) : rngsN (l ++ [t]) = rngsN l + t.ranges.length := by
  unfold rngsN
  rw [List.map_append, List.sum_append]
  simp
structure GL (lo : Int) (k : Nat) (l : List PTab) : Prop where
  ok : okPs 0 l
  last : lastHi 0 l = lo
  pos : 0 ≤ lo
  top : lo ≤ 21 * k
  few : rngsN l ≤ k
  all : ∀ t ∈ l, GRs t.lo (t.hi - 1) t.ranges ∧ 0 ≤ t.lo ∧ t.lo ≤ t.hi ∧ t.hi ≤ 21 * k
theorem GL.start : GL 0 0 [] := ⟨trivial, rfl, by omega, by omega, by simp [rngsN], by simp⟩
theorem GL.push {lo v a : Int} {k k' : Nat} {l : List PTab} {rs : List Rng} (h : GL lo k l) (hv : 0 ≤ v) (hr : GRs (lo + v) a rs) (hk : k ≤ k') (h2 : k' ≤ 1000) (ht : a + 1 ≤ 21 * k') (hf : rngsN l + rs.length ≤ k') : GL (a + 1) k' (l ++ [⟨lo + v, a + 1, rs⟩]) := by
  have h1 := h.pos
  have h3 := h.top
  have h4 := hr.at_
  have h5 := hr.okR
  refine ⟨(okPs_snoc _ _ _).2 ⟨h.ok, ?_, h5⟩, lastHi_snoc _ _ _, by omega, ht, by rw [rngsN_snoc]; exact hf, fun t htt => ?_⟩
  · rw [h.last]
    unfold okP
    simp only
    omega
  · rcases List.mem_append.1 htt with htt | htt
    · obtain ⟨a1, a2, a3, a4⟩ := h.all t htt
      exact ⟨a1, a2, a3, by omega⟩
    · simp only [List.mem_singleton] at htt
      subst htt
      exact ⟨by simp only [Int.add_sub_cancel]; exact hr, by simp only; omega, by simp only; omega, by simp only; omega⟩
theorem madeR_len {was lo a : Int} {r : Rng} (h : madeR lo a r) (hw : 0 ≤ was ∧ was ≤ r.lo ∧ a ≤ 1048576) : (encRng was r).length ≤ 123 := by
  unfold madeR at h
  have h2 := numB_len (vs := [r.lo - was, r.hi - r.lo, r.ctx, r.var, r.piece, (r.places.length : Int)]) (by simp only [List.mem_cons, List.not_mem_nil, or_false, forall_eq_or_imp, forall_eq]; omega)
  have h3 := encPls_len (l := r.places) (fun p hp => h.2.2.2.2.2 p hp)
  unfold encRng
  rw [List.length_append]
  simp only [List.length_cons, List.length_nil] at h2
  omega
theorem madeRs_len : ∀ {rs : List Rng} {was lo a : Int}, (∀ r ∈ rs, madeR lo a r) → rs.Pairwise (fun x y => x.lo < y.lo) → 0 ≤ was → (∀ r ∈ rs, was ≤ r.lo) → a ≤ 1048576 → (encRngs was rs).length ≤ 123 * rs.length
  | [], _, _, _, _, _, _, _, _ => by simp [encRngs]
  | r :: rs, was, lo, a, h, hp, h0, hw, ha => by
    have h1 := madeR_len (h r (by simp)) ⟨h0, hw r (by simp), ha⟩
    rw [List.pairwise_cons] at hp
    have h2 := madeRs_len (rs := rs) (was := r.lo) (fun x hx => h x (by simp [hx])) hp.2 (by have := hw r (by simp); omega) (fun x hx => by have := hp.1 x hx; omega) ha
    simp only [encRngs, List.length_append, List.length_cons]
    omega
theorem madeT_len : ∀ {l : List PTab} {k : Nat}, (∀ t ∈ l, GRs t.lo (t.hi - 1) t.ranges ∧ 0 ≤ t.lo ∧ t.lo ≤ t.hi ∧ t.hi ≤ 21 * k) → k ≤ 1000 → rngsN l ≤ k → (l.flatMap encPT).length ≤ 30 * l.length + 123 * rngsN l
  | [], _, _, _, _ => by simp [rngsN]
  | t :: l, k, h, hk, hf => by
    obtain ⟨h1, h2, h3, h4⟩ := h t (by simp)
    have hs : rngsN (t :: l) = t.ranges.length + rngsN l := by simp [rngsN]
    have h5 := madeT_len (l := l) (k := k) (fun x hx => h x (by simp [hx])) hk (by omega)
    have h6 := madeRs_len h1.all h1.asc h2 (fun r hr => (h1.all r hr).1.1) (by omega)
    have h7 := numB_len (vs := [t.lo, t.hi, (t.ranges.length : Int)]) (by simp only [List.mem_cons, List.not_mem_nil, or_false, forall_eq_or_imp, forall_eq]; omega)
    simp only [List.flatMap_cons, List.length_append, List.length_cons, encPT, List.length_nil] at *
    omega
/-- lists that are made -/
structure MadeL (l : List PTab) : Prop where
  right : RightP l
  adds : AddsIn l
  len : (encPs l).length ≤ 60000
  few : l.length ≤ 3
theorem GL.made {lo : Int} {k : Nat} {l : List PTab} (h : GL lo k l) (hk : k ≤ 200) (hl : l.length ≤ 3) : MadeL l := by
  have h1 := h.few
  refine ⟨⟨by omega, h.ok, by omega⟩, fun t ht r hr p hp => (((h.all t ht).1.all r hr).2.2.2.2.2 p hp).2, ?_, hl⟩
  have h2 := madeT_len h.all (by omega) h1
  have h3 := numB_len (vs := [(l.length : Int)]) (by simp only [List.mem_singleton, forall_eq]; omega)
  unfold encPs
  simp only [List.length_append, List.length_cons, List.length_nil] at *
  omega
theorem MadeL.I {l : List PTab} (h : MadeL l) {t : PTab} (ht : t ∈ l) : t.I := by
  have h1 := okPs_mem (by omega) h.right.2.1 t ht
  have h2 := okRngs_len h1.2 h1.1.1 h1.1.2.2
  exact ⟨by omega, by omega, by omega, fun r hr => by
    obtain ⟨i, hi, rfl⟩ := List.getElem_of_mem hr
    have := (h1.2 i hi).2.1.2.1
    omega⟩
end Go.Proofs.Ytokmbdeafjmcjaa
/- The walk that makes location lists from numbers. -/
namespace Go.Proofs.Ytokmbdeafjmcjaa
open Go.RowKit
set_option linter.unusedVariables false
set_option linter.unusedSimpArgs false

theorem InI.pre19 {w : World} {A : Option Addr} {n c : Nat} {l : List Int} (h : InI w (.slice A n c) l) (m : Nat) (hm : m ≤ l.length) : InI w (.slice A m c) (l.take m) := by
  obtain ⟨A', c', e, hc, hr⟩ := h
  cases e
  have hlt : (l.take m).length = m := by simp; omega
  exact ⟨A, c, by rw [hlt], by omega, by rw [List.map_take]; exact hr.take _⟩
theorem stepN_le {n k : Nat} (h : k ≤ n) : k ≤ stepN n k ∧ stepN n k ≤ n := by unfold stepN; split <;> omega
theorem stepN_lt {n k : Nat} (h : k < n) : stepN n k = k + 1 := by unfold stepN; rw [if_pos h]
def atOf (g : Nat) (W : World) : Nat := match W.cell? ⟨g, 1, none⟩ with
  | some (.int _ i) => i.toNat
  | _ => 0
theorem atOf_eq {g k : Nat} {W : World} {x : Value} {t : TypeId} (h : W.heap[g]? = some (.cells #[x, .int .i64 (k : Int)] t (0, 0))) : atOf g W = k := by
  have := blk_at h 1 _ rfl
  unfold atOf
  rw [this]
  simp
theorem Kept.rd {w0 W W' : World} {gr : Nat} (h : Kept w0.heap.size [gr] w0 W) (hg : W.grownBy W' (some gr)) : Kept w0.heap.size [gr] w0 W' :=
  h.drop1 (Kept.of_grown hg (Nat.le_refl _) (fun k e => by cases e; exact .inr (by simp)))
theorem Kept.toX {w w0 W : World} {g : Nat} (h : Kept w0.heap.size [g] w0 W) (he : Ext w w0) (hl : w.heap.size ≤ g) : Ext w W := h.ext he he.size (fun i hi => by simp only [List.mem_cons, List.not_mem_nil, or_false] at hi; subst hi; exact hl)
theorem RngsOwn.put7 {base : Nat} {w w' : World} {v : Value} {l : List Rng} (h : RngsOwn base w v l) {g : Nat} {cs : Array Value} {fr : Nat × Nat} (hb : w.heap[g]? = some (.cells cs 66 fr)) (hg : w.grownBy w' (some g)) : RngsOwn base w' v l := by
  obtain ⟨zs, h1, h2, h3⟩ := h
  exact ⟨zs, h1, h2.kept hg (.inr (h2.ne_blk hb (by decide))), fun z hz => (h3 z hz).kept hg (.inr ((h3 z hz).ne_blk hb (by decide)))⟩
def LsPost (w : World) (en : Ending) (w' : World) : Prop := ∃ y l, en = .returned y ∧ POwn w.heap.size w' y l ∧ MadeL l ∧ Ext w w'
set_option maxHeartbeats 40000000 in
set_option maxRecDepth 100000 in
theorem lists19_any (x : Value) (nums0 : List Int) (w : World) (hx : InI w x nums0) (hnl : nums0.length ≤ 9223372036854775807) : Calls Try.prog 39 #[x] w (LsPost w) := by
  obtain ⟨A0, c0, rfl, hcap0, _⟩ := id hx
  obtain ⟨n0, hn0⟩ : ∃ n, n = nums0.length := ⟨_, rfl⟩
  rw [← hn0] at hx hnl hcap0 ⊢
  have HN0 := Lib.hid hn0
  clear hn0
  go_enter Try.func39, Try.ntmps39
  go_upto_if 14 with fail
  go_cut [0, 14] (fun v _ wx => ∃ (nums : List Int) (A : Option Addr) (n c : Nat), v = .slice A n c ∧ InI w (.slice A n c) nums ∧ Hid (nums.length = n) ∧ n ≤ 200 ∧ wx = w)
  case first =>
    by_cases h3 : 200 < n0
    · have d3 : decide ((200 : Int) < (n0 : Int)) = true := by simp; omega
      have hin3 := InI.pre19 hx 200 (by have := HN0.out; omega)
      have HLEN : Hid ((nums0.take 200).length = 200) := Lib.hid (by have := HN0.out; simp; omega)
      go_wp2_with fail
      go_meet
      exact ⟨nums0.take 200, A0, 200, c0, rfl, hin3, HLEN, by omega, rfl⟩
    · have d3 : decide ((200 : Int) < (n0 : Int)) = false := by simp; omega
      have HLEN : Hid (nums0.length = n0) := Lib.hid HN0.out.symm
      go_wp2_with fail
      go_meet
      exact ⟨nums0, A0, n0, c0, rfl, hx, HLEN, by omega, rfl⟩
  obtain ⟨nums, A, n, c, rfl, hin, HNL, hn2, hwe⟩ := hcut
  subst hwe
  obtain ⟨wO, rfl⟩ : ∃ W : World, W = wc := ⟨_, rfl⟩
  clear hx
  go_upto_region 4 with fail
  obtain ⟨g3, hg3⟩ : ∃ g, g = wO.heap.size := ⟨_, rfl⟩
  have hB := heap_alloc_new wO (.cells #[.slice A n c, .int .i64 0] 114)
  have hE := (Ext.refl wO).alloc (.cells #[.slice A n c, .int .i64 0] 114)
  rw [← hg3] at hB ⊢
  have hlow : wO.heap.size ≤ g3 := by omega
  have HNX : Hid (∀ (k : Nat) (m : Int) (W : World), Ext wO W → W.heap[g3]? = some (.cells #[.slice A n c, .int .i64 (k : Int)] 114 (0, 0)) → (0 < m ∧ m ≤ 4611686018427387904) → k ≤ 1000 → Calls Try.prog 68 #[.pointer (some ⟨g3, 0, none⟩), .int .i64 m] W (NextPost g3 (.slice A n c) n k m W)) := Lib.hid (fun k m W hX hb hk ha => by
    have := next19_any g3 (.slice A n c) nums k m W (fun W' hk' => hin.ext (hk'.ext hX hX.size (fun i hi => by simp only [List.mem_cons, List.not_mem_nil, or_false] at hi; subst hi; exact hlow))) (by rw [hb]) hk (by rw [HNL.out]; omega) ha
    rw [HNL.out] at this
    exact this)
  clear hg3 hin hcap0 hnl
  generalize wO.alloc (.cells #[.slice A n c, .int .i64 0] 114) = w1 at *
  go_wp2_with fail
  go_loopw [4, 5, 6] (fun v li ni wr => ∃ (l : List PTab) (lo : Int) (q k : Nat), ni = .int .i64 (q : Int) ∧ q ≤ 3 ∧ Hid (l.length = q) ∧ li = .int .i64 lo ∧ (0 ≤ lo ∧ lo ≤ 21 * k) ∧ k ≤ n ∧ Hid (GL lo k l) ∧ POwn wO.heap.size wr v l ∧ wr.heap[g3]? = some (.cells #[.slice A n c, .int .i64 (k : Int)] 114 (0, 0)) ∧ Ext wO wr) (fun _ _ ni _ => 3 - (intOf ni).toNat)
  case atStart => exact ⟨[], 0, 0, 0, rfl, by omega, Lib.hid rfl, rfl, by omega, by omega, Lib.hid GL.start, POwn.nil _ _, hB, hE⟩
  case round =>
    clear hB hE
    obtain ⟨l, lo, q, k, rfl, hq3, HQ, rfl, hlo, hkn, HG, hT, hrd, hX⟩ := hrel
    obtain ⟨wo, rfl⟩ : ∃ wo : World, wo = wr := ⟨_, rfl⟩
    obtain ⟨AT, cT, hv⟩ := hT.in_.form
    rw [HQ.out] at hv
    subst hv
    obtain ⟨x0, x1⟩ := blkD hrd
    go_upto_region 7 with fail
    go_cut [30] (fun s wx => ∃ d : Bool, s = .bool d ∧ (d = true → q < 3 ∧ k < n) ∧ wx = wo)
    case first =>
      by_cases h1 : q < 3
      · have d1 : decide ((q : Int) < 3) = true := by simp; omega
        by_cases h2 : k < n
        · have d2 : decide ((k : Int) < (n : Int)) = true := by simp; omega
          go_wp2_with fail
          go_meet
          exact ⟨true, rfl, fun _ => ⟨h1, h2⟩, rfl⟩
        · have d2 : decide ((k : Int) < (n : Int)) = false := by simp; omega
          go_wp2_with fail
          go_meet
          exact ⟨false, rfl, fun h => (by cases h), rfl⟩
      · have d1 : decide ((q : Int) < 3) = false := by simp; omega
        go_wp2_with fail
        go_meet
        exact ⟨false, rfl, fun h => (by cases h), rfl⟩
    obtain ⟨d, rfl, hd, hwe⟩ := hcut
    subst hwe
    obtain ⟨wo, rfl⟩ : ∃ W : World, W = wc := ⟨_, rfl⟩
    clear x0 x1
    cases d with
    | false =>
      clear hd
      go_wp2_with fail
      refine bodyPost_ret (by simp [results, Try.results39, go_sem]; rfl) rfl ?_
      exact ⟨_, l, rfl, hT, HG.out.made (by omega) (by rw [HQ.out]; omega), hX⟩
    | true =>
    obtain ⟨hq, hkl⟩ := hd rfl
    clear hd hq3
    have hgo : g3 < wo.heap.size := heap_lt hrd
    go_wp2_with fail
    refine (HNX.out k 9 wo hX hrd (by omega) (by omega)).mono ?_
    rintro en w2 ⟨v9, rfl, hv9, hrd_v9, hg_v9⟩
    obtain ⟨k1, hk_v9, hkr_v9⟩ : ∃ kz, stepN n k = kz ∧ (k ≤ kz ∧ kz ≤ n) := ⟨_, rfl, stepN_le (by omega)⟩
    have hkl_v9 : k < n → k + 1 ≤ k1 := fun h => by rw [← hk_v9, stepN_lt h]; omega
    rw [hk_v9] at hrd_v9
    clear hk_v9
    have hk1 := hkl_v9 hkl
    obtain ⟨lo8, hlo8, hlo8e⟩ : ∃ m, IntKind.i64.wrap (lo + v9) = m ∧ m = lo + v9 := ⟨_, wrap_in19 (by omega), rfl⟩
    have hl8 : 0 ≤ lo8 ∧ lo8 + 2 ≤ 21 * k1 := by omega
    have HLO8 := Lib.hid hlo8e
    have HV9 := Lib.hid hv9
    clear hlo8e
    have hKw : Kept wo.heap.size [g3] wo w2 := Kept.of_grown hg_v9 (Nat.le_refl _) (fun k e => by cases e; exact .inr (by simp))
    obtain ⟨hst, hG, hXG⟩ := box_new (P := Try.prog) w2 66 #[.int .i64 0, .int .i64 0, .slice none 0 0] #[.int .i64 lo8, .int .i64 0, .slice none 0 0] pl_size rfl (by simp [Value.oneCell'])
    go_upto_region 10 with first | refine wpList_store_run rfl 66 (.tmp 7) (.tmp 37) rfl _ _ _ rfl rfl hst ?_
    obtain ⟨g7, hg7⟩ : ∃ g, g = w2.heap.size := ⟨_, rfl⟩
    have hgl7 : wo.heap.size ≤ g7 := by rw [hg7]; exact hKw.size
    rw [← hg7] at hG hXG ⊢
    generalize (w2.alloc (.cells #[.int .i64 0, .int .i64 0, .slice none 0 0] 66)).setRow g7 #[.int .i64 lo8, .int .i64 0, .slice none 0 0] = w3 at *
    have hT0 : BX 66 wo g3 g7 #[.int .i64 lo8, .int .i64 0, .slice none 0 0] w3 := ⟨hG, hKw.drop1 (Kept.of_ext hXG (Nat.le_refl _)), hgl7, hgo⟩
    have hrd3 := hXG.heap hrd_v9
    clear hst hG hXG hKw hg7 hrd_v9 hg_v9 hkl_v9
    obtain ⟨t0, t1, t2⟩ := blk3 hT0.box
    have f1 := blk_free hT0.box 1
    have hlt7 := heap_lt hT0.box
    obtain ⟨lo9, hlo9, hlo9e⟩ : ∃ m, IntKind.i64.wrap (lo8 + 1) = m ∧ m = lo8 + 1 := ⟨_, wrap_in19 (by omega), rfl⟩
    have HLO9 := Lib.hid hlo9e
    clear hlo9e
    go_upto_region 11 with fail
    go_wp2_with fail
    have hTP : BX 66 wo g3 g7 #[.int .i64 lo8, .int .i64 lo9, .slice none 0 0] (w3.setCell ⟨g7, 1, none⟩ (.int .i64 lo9)) := hT0.put 1 (.int .i64 lo9)
    have hrd4 := blk_grown hrd3 (gset w3 ⟨g7, 1, none⟩ (.int .i64 lo9)) (fun e => blk_ne hrd3 hT0.box (by decide) (by cases e; rfl))
    clear t0 t1 t2 f1 hlt7 hT0 hrd3
    generalize w3.setCell ⟨g7, 1, none⟩ (.int .i64 lo9) = w4 at *
    rw [HLO9.out] at hTP
    clear hlo9 hlo8
    go_loopw [8] (fun ai wz => ∃ (a : Int) (rs : List Rng) (y : Value) (kk : Nat), ai = .int .i64 a ∧ (lo8 ≤ a ∧ a + 1 ≤ 21 * kk) ∧ (k1 ≤ kk ∧ kk ≤ n) ∧ Hid (GRs lo8 a rs) ∧ Hid (rngsN l + rs.length ≤ kk) ∧ BX 66 wo g3 g7 #[.int .i64 lo8, .int .i64 (a + 1), y] wz ∧ RngsOwn wo.heap.size wz y rs ∧ wz.heap[g3]? = some (.cells #[.slice A n c, .int .i64 (kk : Int)] 114 (0, 0))) (fun _ wz => n - atOf g3 wz)
    case atStart => exact ⟨lo8, [], _, k1, rfl, by omega, by omega, Lib.hid (GRs.start lo8), Lib.hid (by have := HG.out.few; simp; omega), hTP, RngsOwn.nil _ _, hrd4⟩
    case round =>
      clear hTP hrd4
      obtain ⟨a, rs, y, kk, rfl, ha, hkk, HGR, HFW, hTB, hown, hrdz⟩ := hrel
      obtain ⟨wz, rfl⟩ : ∃ W : World, W = wr := ⟨_, rfl⟩
      obtain ⟨AY, cY, hyv⟩ := hown.in_.form
      obtain ⟨nr, hnr⟩ : ∃ m, m = rs.length := ⟨_, rfl⟩
      rw [← hnr] at hyv
      subst hyv
      have HNR := Lib.hid hnr
      have hnr2 : nr ≤ 200 := by have := HFW.out; omega
      clear hnr
      have hXz := hTB.toExt hX hlow
      have HAZ := Lib.hid (atOf_eq hrdz)
      obtain ⟨x0, x1⟩ := blkD hrdz
      go_upto_region 12 with fail
      go_cut [54] (fun s wx => ∃ (d : Bool) (k2 : Nat), s = .bool d ∧ (kk ≤ k2 ∧ k2 ≤ n) ∧ (d = true → kk + 1 ≤ k2) ∧ wx.heap[g3]? = some (.cells #[.slice A n c, .int .i64 (k2 : Int)] 114 (0, 0)) ∧ wz.grownBy wx (some g3))
      case first =>
        by_cases h2 : kk < n
        · have d2 : decide ((kk : Int) < (n : Int)) = true := by simp; omega
          go_wp2_with fail
          refine (HNX.out kk 6 wz hXz hrdz (by omega) (by omega)).mono ?_
          rintro en w5 ⟨v6, rfl, hv6, hrd_v6, hg_v6⟩
          obtain ⟨k2, hk_v6, hkr_v6⟩ : ∃ kz, stepN n kk = kz ∧ (kk ≤ kz ∧ kz ≤ n) := ⟨_, rfl, stepN_le (by omega)⟩
          have hkl_v6 : kk < n → kk + 1 ≤ k2 := fun h => by rw [← hk_v6, stepN_lt h]; omega
          rw [hk_v6] at hrd_v6
          clear hk_v6
          have hk2 := hkl_v6 h2
          obtain ⟨db, hdb⟩ : ∃ d, d = decide (0 < v6) := ⟨_, rfl⟩
          go_wp2_with fail
          go_meet
          exact ⟨_, k2, rfl, hkr_v6, fun _ => hk2, hrd_v6, hg_v6⟩
        · have d2 : decide ((kk : Int) < (n : Int)) = false := by simp; omega
          go_wp2_with fail
          go_meet
          exact ⟨false, kk, rfl, by omega, fun h => (by cases h), hrdz, (Ext.refl wz).grownBy _⟩
      obtain ⟨d, k2, rfl, hk2, hd, hrd5, hg5⟩ := hcut
      obtain ⟨wj, rfl⟩ : ∃ W : World, W = wc := ⟨_, rfl⟩
      have hKz : Kept wz.heap.size [g3] wz wj := Kept.of_grown hg5 (Nat.le_refl _) (fun k e => by cases e; exact .inr (by simp))
      have hTJ := hTB.next hKz
      have hownJ := hKz.rngsT hown hrdz
      have hXj := hTJ.toExt hX hlow
      clear x0 x1 hTB hown hKz hg5 hrdz hXz
      cases d with
      | false =>
        clear hd
        obtain ⟨t0, t1, t2⟩ := blk3 hTJ.box
        obtain ⟨zt, hz1, hz2, hz3⟩ := hTJ.kept.pownT hT hrd
        have HZ1 := Lib.hid hz1
        have HZ3 := Lib.hid hz3
        have hzl : zt.length = q := by
          have h1 : zt.length = l.length := by rw [← hz1]; simp
          rw [h1, HQ.out]
        clear hz1 hz3
        obtain ⟨tt, htt⟩ : ∃ tt : PTab, tt = ⟨lo8, a + 1, rs⟩ := ⟨_, rfl⟩
        have hldt := run_loadAt_blk (P := Try.prog) wj g7 66 66 _ (0, 0) _ hTJ.box Try.underlying66 rfl pl_size
        have hA5 := (Ext.refl wj).alloc (.cells #[.int .i64 lo8, .int .i64 (a + 1), .slice AY nr cY] 66)
        have hin5 : InR ptabCells (wj.alloc (.cells #[.int .i64 lo8, .int .i64 (a + 1), .slice AY nr cY] 66)) (.slice (some ⟨wj.heap.size, 0, none⟩) 1 1) [(tt, .slice AY nr cY)] := by
          rw [htt]; exact (OwnR_one (f := ptabCells) wj (⟨lo8, a + 1, rs⟩, .slice AY nr cY) rfl 66).inR
        have hsz5 := Nat.le_trans hXj.size hA5.size
        have HTT := Lib.hid htt
        clear htt
        go_wp2_with first | refine wpList_load_run rfl 66 (.tmp 7) rfl _ _ rfl hldt ?_ | refine wpList_rowOne elem_pl rfl (.tmp 112) rfl #[.int .i64 lo8, .int .i64 (a + 1), .slice AY nr cY] rfl rfl (by omega) ?_ | (at_builtin; go_must (refine wpList_appendR elem_pl rfl (.tmp 111) (.tmp 113) rfl wO.heap.size _ zt rfl (hz2.ext hA5) _ [(tt, .slice AY nr cY)] rfl hin5 (fun _ _ => rfl) (fun b hb u hu => by simp only [List.mem_singleton] at hb; subst hb; simp only [ptabCells, List.mem_cons, List.not_mem_nil, or_false] at hu; rcases hu with rfl | rfl | rfl <;> rfl) (by simp only [List.length_cons, List.length_nil]; omega) (by omega) hsz5 (Hold.out ?_)))
        refine Hold.mk fun vA wA hoA hgA => ?_
        have hTn : POwn wO.heap.size wA vA (l ++ [tt]) := by
          refine ⟨zt ++ [(tt, .slice AY nr cY)], by rw [List.map_append, HZ1.out]; rfl, hoA, fun z hz => ?_⟩
          rcases List.mem_append.1 hz with hz | hz
          · exact ((HZ3.out z hz).ext hA5).beside (hz2.ext hA5) hgA.grown
          · simp only [List.mem_singleton] at hz
            subst hz
            rw [HTT.out]
            exact ((hownJ.low hX.size).ext hA5).beside (hz2.ext hA5) hgA.grown
        have hrdA := blk_grown (hA5.heap hrd5) hgA.grown (fun e => hz2.ne_blk hrd5 (by decide) e.symm)
        have hXA : Ext wO wA := hgA.ext (hXj.trans hA5) hz2.ge
        have HGn : Hid (GL (a + 1) k2 (l ++ [tt])) := Lib.hid (by
          rw [HTT.out, HLO8.out]
          exact HG.out.push HV9.out.1 (by rw [← HLO8.out]; exact HGR.out) (by omega) (by omega) (by omega) (by have := HFW.out; omega))
        have HQn : Hid ((l ++ [tt]).length = q + 1) := Lib.hid (by rw [List.length_append, HQ.out]; rfl)
        clear hldt hA5 hin5 hsz5 hoA hgA hz2 t0 t1 t2 hTJ hownJ hXj hrd5 hT hrd hX
        go_wp2_with fail
        go_roundw
        case rel => exact ⟨l ++ [tt], a + 1, q + 1, k2, by first | (with_reducible rfl) | go_num, by omega, HQn, by first | (with_reducible rfl) | go_num, by omega, by omega, HGn, hTn, hrdA, hXA⟩
        case measure => simp [intOf]; omega
      | true =>
      have hk3 := hd rfl
      clear hd
      have hgj : g3 < wj.heap.size := heap_lt hrd5
      have va : IntKind.i64.wrap (a + 1) = a + 1 := wrap_in19 (by omega)
      go_wp2_with fail
      refine (HNX.out k2 20 wj hXj hrd5 (by omega) (by omega)).mono ?_
      rintro en w6 ⟨v20, rfl, hv20, hrd_v20, hg_v20⟩
      obtain ⟨k3, hk_v20, hkr_v20⟩ : ∃ kz, stepN n k2 = kz ∧ (k2 ≤ kz ∧ kz ≤ n) := ⟨_, rfl, stepN_le (by omega)⟩
      have hkl_v20 : k2 < n → k2 + 1 ≤ k3 := fun h => by rw [← hk_v20, stepN_lt h]; omega
      rw [hk_v20] at hrd_v20
      clear hk_v20
      have hK6 : Kept wj.heap.size [g3] wj w6 := (Kept.refl _ _ _).rd hg_v20
      have hX6 := hK6.toX hXj hlow
      obtain ⟨a2, ha2, ha2e⟩ : ∃ m, IntKind.i64.wrap (a + 1 + v20) = m ∧ m = a + 1 + v20 := ⟨_, wrap_in19 (by omega), rfl⟩
      have hab : a < a2 ∧ a2 + 1 ≤ 21 * k3 ∧ a2 ≤ 10000 := by omega
      have hv2 : IntKind.i64.wrap (a2 + 1) = a2 + 1 := wrap_in19 (by omega)
      clear ha2e hg_v20 hkl_v20
      go_wp2_with fail
      refine (HNX.out k3 3 w6 hX6 hrd_v20 (by omega) (by omega)).mono ?_
      rintro en w7 ⟨vc, rfl, hvc, hrd_vc, hg_vc⟩
      obtain ⟨k4, hk_vc, hkr_vc⟩ : ∃ kz, stepN n k3 = kz ∧ (k3 ≤ kz ∧ kz ≤ n) := ⟨_, rfl, stepN_le (by omega)⟩
      have hkl_vc : k3 < n → k3 + 1 ≤ k4 := fun h => by rw [← hk_vc, stepN_lt h]; omega
      rw [hk_vc] at hrd_vc
      clear hk_vc
      have hK7 := hK6.rd hg_vc
      have hX7 := hK7.toX hXj hlow
      clear hg_vc hkl_vc hrd_v20 hK6 hX6 va ha2
      go_wp2_with fail
      refine (HNX.out k4 24 w7 hX7 hrd_vc (by omega) (by omega)).mono ?_
      rintro en w8 ⟨vv, rfl, hvv, hrd_vv, hg_vv⟩
      obtain ⟨k5, hk_vv, hkr_vv⟩ : ∃ kz, stepN n k4 = kz ∧ (k4 ≤ kz ∧ kz ≤ n) := ⟨_, rfl, stepN_le (by omega)⟩
      have hkl_vv : k4 < n → k4 + 1 ≤ k5 := fun h => by rw [← hk_vv, stepN_lt h]; omega
      rw [hk_vv] at hrd_vv
      clear hk_vv
      have hK8 := hK7.rd hg_vv
      have hX8 := hK8.toX hXj hlow
      clear hg_vv hkl_vv hrd_vc hK7 hX7
      go_wp2_with fail
      refine (HNX.out k5 4 w8 hX8 hrd_vv (by omega) (by omega)).mono ?_
      rintro en w9 ⟨vp, rfl, hvp, hrd_vp, hg_vp⟩
      obtain ⟨k6, hk_vp, hkr_vp⟩ : ∃ kz, stepN n k5 = kz ∧ (k5 ≤ kz ∧ kz ≤ n) := ⟨_, rfl, stepN_le (by omega)⟩
      have hkl_vp : k5 < n → k5 + 1 ≤ k6 := fun h => by rw [← hk_vp, stepN_lt h]; omega
      rw [hk_vp] at hrd_vp
      clear hk_vp
      have hK9 := hK8.rd hg_vp
      clear hg_vp hkl_vp hrd_vv hK8 hX8
      obtain ⟨hst, hG, hXG⟩ := box_new (P := Try.prog) w9 69 #[.int .i64 0, .int .i64 0, .int .i64 0, .int .i64 0, .int .i64 0, .slice none 0 0] #[.int .i64 vc, .int .i64 vv, .int .i64 vp, .int .i64 a2, .int .i64 (a2 + 1), .slice none 0 0] rg_size rfl (by simp [Value.oneCell'])
      go_upto_region 15 with first | refine wpList_store_run rfl 69 (.tmp 9) (.tmp 69) rfl _ _ _ rfl rfl hst ?_
      obtain ⟨g9, hg9⟩ : ∃ g, g = w9.heap.size := ⟨_, rfl⟩
      have hgl9 : wj.heap.size ≤ g9 := by rw [hg9]; exact hK9.size
      rw [← hg9] at hG hXG ⊢
      generalize (w9.alloc (.cells #[.int .i64 0, .int .i64 0, .int .i64 0, .int .i64 0, .int .i64 0, .slice none 0 0] 69)).setRow g9 #[.int .i64 vc, .int .i64 vv, .int .i64 vp, .int .i64 a2, .int .i64 (a2 + 1), .slice none 0 0] = wb at *
      have hR0 : BX 69 wj g3 g9 #[.int .i64 vc, .int .i64 vv, .int .i64 vp, .int .i64 a2, .int .i64 (a2 + 1), .slice none 0 0] wb := ⟨hG, hK9.drop1 (Kept.of_ext hXG (Nat.le_refl _)), hgl9, hgj⟩
      have hrdb := hXG.heap hrd_vp
      have hXb := hR0.toExt hXj hlow
      clear hst hG hXG hK9 hg9 hrd_vp
      go_wp2_with fail
      refine (HNX.out k6 3 wb hXb hrdb (by omega) (by omega)).mono ?_
      rintro en wd ⟨vk, rfl, hvk, hrd_vk, hg_vk⟩
      obtain ⟨k7, hk_vk, hkr_vk⟩ : ∃ kz, stepN n k6 = kz ∧ (k6 ≤ kz ∧ kz ≤ n) := ⟨_, rfl, stepN_le (by omega)⟩
      have hkl_vk : k6 < n → k6 + 1 ≤ k7 := fun h => by rw [← hk_vk, stepN_lt h]; omega
      rw [hk_vk] at hrd_vk
      clear hk_vk
      have hR1 := hR0.reader hg_vk
      clear hg_vk hkl_vk hrdb hR0 hXb
      go_wp2_with fail
      go_loopw [10] (fun ki wy => ∃ (m : Int) (ps : List Plc) (z : Value) (k8 : Nat), ki = .int .i64 m ∧ (-1 ≤ m ∧ m ≤ vk) ∧ Hid ((ps.length : Int) = vk - m) ∧ (k7 ≤ k8 ∧ k8 ≤ n) ∧ Hid (∀ p ∈ ps, madeP p) ∧ BX 69 wj g3 g9 #[.int .i64 vc, .int .i64 vv, .int .i64 vp, .int .i64 a2, .int .i64 (a2 + 1), z] wy ∧ OwnR plcCells 3 75 wj.heap.size wy z ps ∧ wy.heap[g3]? = some (.cells #[.slice A n c, .int .i64 (k8 : Int)] 114 (0, 0))) (fun ki _ => (intOf ki + 1).toNat)
      case atStart => exact ⟨vk, [], _, k7, rfl, by omega, Lib.hid (by simp), by omega, Lib.hid (by simp), hR1, OwnR.nil _, hrd_vk⟩
      case round =>
        clear hR1 hrd_vk
        obtain ⟨m, ps, z, k8, rfl, hm, HPS, hk8, HMP, hRB, hps, hrdy⟩ := hrel
        obtain ⟨wy, rfl⟩ : ∃ W : World, W = wr := ⟨_, rfl⟩
        obtain ⟨AZ, cZ, hzv, _, _⟩ := hps.inR
        obtain ⟨np, hnp⟩ : ∃ m, m = ps.length := ⟨_, rfl⟩
        rw [← hnp] at hzv
        subst hzv
        have HNP := Lib.hid hnp
        have hnp3 : np ≤ 3 := by have := HPS.out; omega
        clear hnp
        have hXy := hRB.toExt hXj hlow
        have hgy : g3 < wy.heap.size := heap_lt hrdy
        by_cases hm0 : 0 ≤ m
        · have dm : decide (0 ≤ m) = true := by simpa using hm0
          go_wp2_with fail
          refine (HNX.out k8 4 wy hXy hrdy (by omega) (by omega)).mono ?_
          rintro en we ⟨v4, rfl, hv4, hrd_v4, hg_v4⟩
          obtain ⟨k9, hk_v4, hkr_v4⟩ : ∃ kz, stepN n k8 = kz ∧ (k8 ≤ kz ∧ kz ≤ n) := ⟨_, rfl, stepN_le (by omega)⟩
          have hkl_v4 : k8 < n → k8 + 1 ≤ k9 := fun h => by rw [← hk_v4, stepN_lt h]; omega
          rw [hk_v4] at hrd_v4
          clear hk_v4
          have hKe : Kept wy.heap.size [g3] wy we := (Kept.refl _ _ _).rd hg_v4
          obtain ⟨kd, hkd, hkde⟩ : ∃ m, IntKind.i64.wrap (1 + v4) = m ∧ m = 1 + v4 := ⟨_, wrap_in19 (by omega), rfl⟩
          have hkdr : 1 ≤ kd ∧ kd ≤ 4 := by omega
          clear hkde hg_v4 hkl_v4
          obtain ⟨hst, hG, hXG⟩ := box_new (P := Try.prog) we 75 #[.int .i64 0, .int .i64 0, .int .i64 0] #[.int .i64 kd, .int .i64 0, .int .i64 0] pc_size rfl (by simp [Value.oneCell'])
          go_upto_region 19 with first | refine wpList_store_run rfl 75 (.tmp 11) (.tmp 79) rfl _ _ _ rfl rfl hst ?_
          obtain ⟨gb, hgb⟩ : ∃ g, g = we.heap.size := ⟨_, rfl⟩
          have hglb : wy.heap.size ≤ gb := by rw [hgb]; exact hKe.size
          rw [← hgb] at hG hXG ⊢
          generalize (we.alloc (.cells #[.int .i64 0, .int .i64 0, .int .i64 0] 75)).setRow gb #[.int .i64 kd, .int .i64 0, .int .i64 0] = wf at *
          have hP0 : BX 75 wy g3 gb #[.int .i64 kd, .int .i64 0, .int .i64 0] wf := ⟨hG, hKe.drop1 (Kept.of_ext hXG (Nat.le_refl _)), hglb, hgy⟩
          have hrdf := hXG.heap hrd_v4
          have hXf := hP0.toExt hXy hlow
          clear hst hG hXG hKe hgb hrd_v4 hkd
          go_wp2_with fail
          refine (HNX.out k9 16 wf hXf hrdf (by omega) (by omega)).mono ?_
          rintro en wg ⟨v16, rfl, hv16, hrd_v16, hg_v16⟩
          obtain ⟨ka, hk_v16, hkr_v16⟩ : ∃ kz, stepN n k9 = kz ∧ (k9 ≤ kz ∧ kz ≤ n) := ⟨_, rfl, stepN_le (by omega)⟩
          have hkl_v16 : k9 < n → k9 + 1 ≤ ka := fun h => by rw [← hk_v16, stepN_lt h]; omega
          rw [hk_v16] at hrd_v16
          clear hk_v16
          have hP1 := hP0.reader hg_v16
          clear hg_v16 hkl_v16 hrdf hP0 hXf
          have f1 := blk_free hP1.box 1
          have u1 := blk_at hP1.box 1 _ rfl
          have hltb := heap_lt hP1.box
          go_upto_region 20 with fail
          have hP2 : BX 75 wy g3 gb #[.int .i64 kd, .int .i64 v16, .int .i64 0] (wg.setCell ⟨gb, 1, none⟩ (.int .i64 v16)) := hP1.put 1 (.int .i64 v16)
          have hrdh := blk_grown hrd_v16 (gset wg ⟨gb, 1, none⟩ (.int .i64 v16)) (fun e => blk_ne hrd_v16 hP1.box (by decide) (by cases e; rfl))
          clear f1 u1 hltb hP1 hrd_v16
          generalize wg.setCell ⟨gb, 1, none⟩ (.int .i64 v16) = wh at *
          obtain ⟨y0, y1, y2⟩ := blk3 hP2.box
          go_upto_if 85 with fail
          go_cut [85] (fun _ wx => ∃ N : Int, ((0 ≤ N ∧ N ≤ 15) ∧ (kd = 1 → N = 0)) ∧ BX 75 wy g3 gb #[.int .i64 kd, .int .i64 N, .int .i64 0] wx ∧ wx.heap[g3]? = some (.cells #[.slice A n c, .int .i64 (ka : Int)] 114 (0, 0)))
          case first =>
            by_cases h1 : kd = 1
            · have d1 : (kd == 1) = true := by simpa using h1
              have f1 := blk_free hP2.box 1
              have hltb := heap_lt hP2.box
              have HK1 := Lib.hid h1
              clear h1
              go_wp2_with fail
              go_meet
              exact ⟨0, ⟨by omega, fun _ => rfl⟩, hP2.put 1 (.int .i64 0), blk_grown hrdh (gset wh ⟨gb, 1, none⟩ (.int .i64 0)) (fun e => blk_ne hrdh hP2.box (by decide) (by cases e; rfl))⟩
            · have d1 : (kd == 1) = false := by simpa using h1
              have HK1 := Lib.hid h1
              clear h1
              go_wp2_with fail
              go_meet
              exact ⟨v16, ⟨by omega, fun h => absurd h HK1.out⟩, hP2, hrdh⟩
          obtain ⟨N, hN, hP3, hrdi⟩ := hcut
          obtain ⟨wi, rfl⟩ : ∃ W : World, W = wc := ⟨_, rfl⟩
          have hXi := hP3.toExt hXy hlow
          clear y0 y1 y2 hP2 hrdh
          go_wp2_with fail
          refine (HNX.out ka 2 wi hXi hrdi (by omega) (by omega)).mono ?_
          rintro en wl ⟨vt, rfl, hvt, hrd_vt, hg_vt⟩
          obtain ⟨kb, hk_vt, hkr_vt⟩ : ∃ kz, stepN n ka = kz ∧ (ka ≤ kz ∧ kz ≤ n) := ⟨_, rfl, stepN_le (by omega)⟩
          have hkl_vt : ka < n → ka + 1 ≤ kb := fun h => by rw [← hk_vt, stepN_lt h]; omega
          rw [hk_vt] at hrd_vt
          clear hk_vt
          have hP4 := hP3.reader hg_vt
          have hXl := hP4.toExt hXy hlow
          clear hg_vt hkl_vt hrdi hP3 hXi
          go_upto_if 89 with fail
          go_cut [89] (fun _ wx => ∃ (ad : Int) (kc : Nat), I64 ad ∧ (kb ≤ kc ∧ kc ≤ n) ∧ BX 75 wy g3 gb #[.int .i64 kd, .int .i64 N, .int .i64 ad] wx ∧ wx.heap[g3]? = some (.cells #[.slice A n c, .int .i64 (kc : Int)] 114 (0, 0)))
          case first =>
            by_cases h1 : vt = 1
            · have d1 : (vt == 1) = true := by simpa using h1
              clear h1
              go_wp2_with fail
              refine (HNX.out kb 1099511627776 wl hXl hrd_vt (by omega) (by omega)).mono ?_
              rintro en wm ⟨vb, rfl, hvb, hrd_vb, hg_vb⟩
              obtain ⟨kc, hk_vb, hkr_vb⟩ : ∃ kz, stepN n kb = kz ∧ (kb ≤ kz ∧ kz ≤ n) := ⟨_, rfl, stepN_le (by omega)⟩
              have hkl_vb : kb < n → kb + 1 ≤ kc := fun h => by rw [← hk_vb, stepN_lt h]; omega
              rw [hk_vb] at hrd_vb
              clear hk_vb
              have hP5 := hP4.reader hg_vb
              have wb1 : IntKind.i64.wrap (vb - 549755813888) = vb - 549755813888 := wrap_in19 (by omega)
              have f2 := blk_free hP5.box 2
              have u2 := blk_at hP5.box 2 _ rfl
              have hltb := heap_lt hP5.box
              go_wp2_with fail
              go_meet
              exact ⟨vb - 549755813888, kc, by unfold I64; omega, by omega, hP5.put 2 (.int .i64 (vb - 549755813888)), blk_grown hrd_vb (gset wm ⟨gb, 2, none⟩ (.int .i64 (vb - 549755813888))) (fun e => blk_ne hrd_vb hP5.box (by decide) (by cases e; rfl))⟩
            · have d1 : (vt == 1) = false := by simpa using h1
              clear h1
              go_wp2_with fail
              go_meet
              exact ⟨0, kb, by unfold I64; omega, by omega, hP4, hrd_vt⟩
          obtain ⟨ad, kc, had, hkc, hP6, hrd6⟩ := hcut
          obtain ⟨wq, rfl⟩ : ∃ W : World, W = wc := ⟨_, rfl⟩
          have hR7 := hRB.next hP6.kept
          have hps7 := hP6.kept.own1 hps hrdy (by decide)
          clear hP4 hXl hrd_vt hRB hps
          have HMPN : Hid (∀ p ∈ ps ++ [(⟨kd, N, ad⟩ : Plc)], madeP p) := Lib.hid (fun p hp => by
            rcases List.mem_append.1 hp with hp | hp
            · exact HMP.out p hp
            · simp only [List.mem_singleton] at hp
              subst hp
              exact ⟨by unfold okPlc; simp only; omega, had⟩)
          have HPSN : Hid (((ps ++ [(⟨kd, N, ad⟩ : Plc)]).length : Int) = vk - (m - 1)) := Lib.hid (by
            have := HPS.out
            rw [List.length_append, List.length_singleton]
            omega)
          have hldp := run_loadAt_blk (P := Try.prog) wq gb 75 75 _ (0, 0) _ hP6.box Try.underlying75 rfl pc_size
          have hA8 := (Ext.refl wq).alloc (.cells #[.int .i64 kd, .int .i64 N, .int .i64 ad] 75)
          have hin8 : InR plcCells (wq.alloc (.cells #[.int .i64 kd, .int .i64 N, .int .i64 ad] 75)) (.slice (some ⟨wq.heap.size, 0, none⟩) 1 1) [(⟨kd, N, ad⟩ : Plc)] := (OwnR_one (f := plcCells) wq (⟨kd, N, ad⟩ : Plc) rfl 75).inR
          have hsz8 := Nat.le_trans hR7.kept.size hA8.size
          have hps8 := hps7.ext hA8
          obtain ⟨b0, b1, b2, b3, b4, b5⟩ := blk6 hR7.box
          go_upto_region 24 with fail
          go_wp2_with first | refine wpList_load_run rfl 75 (.tmp 11) rfl _ _ rfl hldp ?_ | refine wpList_rowOne elem_pc rfl (.tmp 96) rfl #[.int .i64 kd, .int .i64 N, .int .i64 ad] rfl rfl (by omega) ?_ | (at_builtin; go_must (refine wpList_appendR elem_pc rfl (.tmp 95) (.tmp 97) rfl wj.heap.size _ ps rfl hps8 _ [(⟨kd, N, ad⟩ : Plc)] rfl hin8 (fun _ _ => rfl) (fun b hb u hu => by simp only [List.mem_singleton] at hb; subst hb; simp only [plcCells, List.mem_cons, List.not_mem_nil, or_false] at hu; rcases hu with rfl | rfl | rfl <;> rfl) (by have := HNP.out; simp only [List.length_cons, List.length_nil]; omega) (by omega) hsz8 (Hold.out ?_)))
          refine Hold.mk fun vC wC hoC hgC => ?_
          have hR8 := hR7.ext hA8
          have hR9 := hR8.grown hgC.grown (hps8.ne_blk hR8.box (by decide)).symm (fun k e => .inl (hps8.ge k e))
          have hrdC := blk_grown (hA8.heap hrd6) hgC.grown (hps8.ne_blk (hA8.heap hrd6) (by decide)).symm
          obtain ⟨A9, c9, hv9', _, _⟩ := hoC.inR
          rw [List.length_append, ← HNP.out, List.length_singleton] at hv9'
          subst hv9'
          have f5 := blk_free hR9.box 5
          have u5 := blk_at hR9.box 5 _ rfl
          have hlt5 := heap_lt hR9.box
          clear hldp hA8 hin8 hsz8 hps8 hR8 hR7 hps7 hrd6 hgC b0 b1 b2 b3 b4 b5 hP6
          go_upto_region 17 with fail
          have hRn : BX 69 wj g3 g9 #[.int .i64 vc, .int .i64 vv, .int .i64 vp, .int .i64 a2, .int .i64 (a2 + 1), .slice A9 (np + 1) c9] (wC.setCell ⟨g9, 5, none⟩ (.slice A9 (np + 1) c9)) := hR9.put 5 (.slice A9 (np + 1) c9)
          have s5 := gset wC ⟨g9, 5, none⟩ (.slice A9 (np + 1) c9)
          have hpn := hoC.kept s5 (.inr (hoC.ne_blk hR9.box (by decide)))
          have hrn := blk_grown hrdC s5 (fun e => blk_ne hrdC hR9.box (by decide) (by cases e; rfl))
          clear s5 hR9 hoC hrdC f5 u5 hlt5
          generalize wC.setCell ⟨g9, 5, none⟩ (.slice A9 (np + 1) c9) = wn at *
          have vm : IntKind.i64.wrap (m - 1) = m - 1 := wrap_in19 (by omega)
          go_wp2_with fail
          go_roundw
          case rel => exact ⟨m - 1, ps ++ [(⟨kd, N, ad⟩ : Plc)], _, kc, by first | (with_reducible rfl) | go_num, by omega, HPSN, by omega, HMPN, hRn, hpn, hrn⟩
          case measure => simp [intOf]; omega
        · have dm : decide (0 ≤ m) = false := by simpa using hm0
          have HMR : Hid (madeR lo8 a2 (⟨vc, vv, vp, a2, a2 + 1, ps⟩ : Rng)) := Lib.hid (by
            have := HPS.out
            have e1 : lo8 ≤ a2 := Int.le_trans ha.1 (Int.le_of_lt hab.1)
            exact ⟨⟨e1, Int.le_refl _, rfl⟩, ⟨hvc.1, by show vc ≤ 255; omega⟩, ⟨hvv.1, hvv.2⟩, ⟨hvp.1, hvp.2⟩, ⟨by show 1 ≤ ps.length; omega, by show ps.length ≤ 3; omega⟩, HMP.out⟩)
          have HGN : Hid (GRs lo8 a2 (rs ++ [(⟨vc, vv, vp, a2, a2 + 1, ps⟩ : Rng)])) := Lib.hid (HGR.out.push hab.1 HMR.out rfl)
          have HFN : Hid (rngsN l + (rs ++ [(⟨vc, vv, vp, a2, a2 + 1, ps⟩ : Rng)]).length ≤ k8) := Lib.hid (by have := HFW.out; rw [List.length_append, List.length_singleton]; omega)
          have hT2 := hTJ.next hRB.kept
          obtain ⟨zt, hz1, hz2, hz3⟩ := hRB.kept.rngsT hownJ hrd5
          have hps2 := hps.low hTJ.kept.size
          have HZ1 := Lib.hid hz1
          have HZ3 := Lib.hid hz3
          have hzl : zt.length = nr := by
            have h1 : zt.length = rs.length := by rw [← hz1]; simp
            rw [h1, ← HNR.out]
          clear hz1 hz3 hps hTJ hownJ
          obtain ⟨t0, t1, t2⟩ := blk3 hT2.box
          have hlds := run_loadAt_blk (P := Try.prog) wy g9 69 69 _ (0, 0) _ hRB.box Try.underlying69 rfl rg_size
          have hA5 := (Ext.refl wy).alloc (.cells #[.int .i64 vc, .int .i64 vv, .int .i64 vp, .int .i64 a2, .int .i64 (a2 + 1), .slice AZ np cZ] 69)
          have hin5 : InR rngCells (wy.alloc (.cells #[.int .i64 vc, .int .i64 vv, .int .i64 vp, .int .i64 a2, .int .i64 (a2 + 1), .slice AZ np cZ] 69)) (.slice (some ⟨wy.heap.size, 0, none⟩) 1 1) [((⟨vc, vv, vp, a2, a2 + 1, ps⟩ : Rng), Value.slice AZ np cZ)] := (OwnR_one (f := rngCells) wy ((⟨vc, vv, vp, a2, a2 + 1, ps⟩ : Rng), Value.slice AZ np cZ) rfl 69).inR
          have hsz5 := Nat.le_trans hT2.kept.size hA5.size
          have hz5 := hz2.ext hA5
          go_upto_region 25 with fail
          go_wp2_with first | refine wpList_load_run rfl 69 (.tmp 9) rfl _ _ rfl hlds ?_ | refine wpList_rowOne elem_rg rfl (.tmp 102) rfl #[.int .i64 vc, .int .i64 vv, .int .i64 vp, .int .i64 a2, .int .i64 (a2 + 1), .slice AZ np cZ] rfl rfl (by omega) ?_ | (at_builtin; go_must (refine wpList_appendR elem_rg rfl (.tmp 101) (.tmp 103) rfl wo.heap.size _ zt rfl hz5 _ [((⟨vc, vv, vp, a2, a2 + 1, ps⟩ : Rng), Value.slice AZ np cZ)] rfl hin5 (fun _ _ => rfl) (fun b hb u hu => by simp only [List.mem_singleton] at hb; subst hb; simp only [rngCells, List.mem_cons, List.not_mem_nil, or_false] at hu; rcases hu with rfl | rfl | rfl | rfl | rfl | rfl <;> rfl) (by simp only [List.length_cons, List.length_nil]; omega) (by omega) hsz5 (Hold.out ?_)))
          refine Hold.mk fun vC wC hoC hgC => ?_
          have hT5 := hT2.ext hA5
          have hT9 := hT5.grown hgC.grown (hz5.ne_blk hT5.box (by decide)).symm (fun k e => .inl (hz5.ge k e))
          have hrdC := blk_grown (hA5.heap hrdy) hgC.grown (hz5.ne_blk (hA5.heap hrdy) (by decide)).symm
          have honC : RngsOwn wo.heap.size wC vC (rs ++ [(⟨vc, vv, vp, a2, a2 + 1, ps⟩ : Rng)]) := by
            refine ⟨zt ++ [((⟨vc, vv, vp, a2, a2 + 1, ps⟩ : Rng), Value.slice AZ np cZ)], by rw [List.map_append, HZ1.out]; rfl, hoC, fun z hz => ?_⟩
            have hin' : ∀ (v : Value) (l : List Plc), OwnR plcCells 3 75 wo.heap.size (wy.alloc (.cells #[.int .i64 vc, .int .i64 vv, .int .i64 vp, .int .i64 a2, .int .i64 (a2 + 1), .slice AZ np cZ] 69)) v l → OwnR plcCells 3 75 wo.heap.size wC v l := fun v l hzz => hzz.kept hgC.grown (row_ne hzz hz5 (by decide))
            rcases List.mem_append.1 hz with hz | hz
            · exact hin' _ _ ((HZ3.out z hz).ext hA5)
            · simp only [List.mem_singleton] at hz
              subst hz
              exact hin' _ _ (hps2.ext hA5)
          obtain ⟨A9, c9, hv9'⟩ := honC.in_.form
          rw [List.length_append, List.length_singleton, ← HNR.out] at hv9'
          subst hv9'
          have f2 := blk_free hT9.box 2
          have u2 := blk_at hT9.box 2 _ rfl
          have hlt9 := heap_lt hT9.box
          clear hlds hA5 hin5 hsz5 hz5 hz2 hT5 hT2 hps2 hoC hgC t0 t1 t2 hRB hrdy hzl
          go_upto_region 26 with fail
          have hTn : BX 66 wo g3 g7 #[.int .i64 lo8, .int .i64 (a + 1), .slice A9 (nr + 1) c9] (wC.setCell ⟨g7, 2, none⟩ (.slice A9 (nr + 1) c9)) := hT9.put 2 (.slice A9 (nr + 1) c9)
          have s4 := gset wC ⟨g7, 2, none⟩ (.slice A9 (nr + 1) c9)
          have hon := honC.put7 hT9.box s4
          have hrn := blk_grown hrdC s4 (fun e => blk_ne hrdC hT9.box (by decide) (by cases e; rfl))
          clear s4 hT9 honC hrdC f2 u2 hlt9
          generalize wC.setCell ⟨g7, 2, none⟩ (.slice A9 (nr + 1) c9) = wn at *
          have f1 := blk_free hTn.box 1
          have u1 := blk_at hTn.box 1 _ rfl
          have hlt9 := heap_lt hTn.box
          go_wp2_with fail
          have hTm : BX 66 wo g3 g7 #[.int .i64 lo8, .int .i64 (a2 + 1), .slice A9 (nr + 1) c9] (wn.setCell ⟨g7, 1, none⟩ (.int .i64 (a2 + 1))) := hTn.put 1 (.int .i64 (a2 + 1))
          have s1 := gset wn ⟨g7, 1, none⟩ (.int .i64 (a2 + 1))
          have honm := hon.put7 hTn.box s1
          have hrdm := blk_grown hrn s1 (fun e => blk_ne hrn hTn.box (by decide) (by cases e; rfl))
          clear s1 hTn hon hrn f1 u1 hlt9
          generalize wn.setCell ⟨g7, 1, none⟩ (.int .i64 (a2 + 1)) = wm at *
          go_roundw
          case rel => exact ⟨a2, rs ++ [(⟨vc, vv, vp, a2, a2 + 1, ps⟩ : Rng)], _, k8, by first | (with_reducible rfl) | go_num, by omega, by omega, HGN, HFN, hTm, honm, hrdm⟩
          case measure => rw [atOf_eq hrdm, HAZ.out]; omega
end Go.Proofs.Ytokmbdeafjmcjaa
