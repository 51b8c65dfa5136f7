/- The contract of near of the statements about packets, and of the reference's Same. -/
import Derived.Test.YtoeibcpjmoekpaaPacketE
import Derived.Test.YtoeibcpjmoekpaaKit
import Derived.StillTailTactics
namespace Go.Proofs.Ytoeibcpjmoekpaa
open Go.RowKit
set_option linter.unusedVariables false

theorem Mod_still (n k : Int) (w : World) (hk : 0 < k) (hk2 : k ≤ 4611686018427387904) :
    Calls Try.prog 17 #[.int .i64 n, .int .i64 k] w fun e w' => e = .returned (.int .i64 (n % k)) ∧ w' = w :=
  (Mod_any n k w hk hk2).mono fun _ _ h => ⟨h.1, h.2.symm⟩

/-- the box of the packet and that of the result -/
structure NB (w W : World) (k s d q a : Int) (y : Value) : Prop where
  box : W.heap[w.heap.size]? = some (.cells #[.int .i64 k, .int .i64 s, .int .i64 d, .int .i64 q, .int .i64 a, y] 39 (0, 0))
  res : W.heap[w.heap.size + 1]? = some (.cells #[.int .i64 0, .int .i64 0, .int .i64 0, .int .i64 0, .int .i64 0, .slice none 0 0] 39 (0, 0))
  ext : Ext w W
theorem blk6f {w : World} {g : Nat} {a b c d e f : Value} {t : TypeId} (H : w.heap[g]? = some (.cells #[a, b, c, d, e, f] t (0, 0))) :
    w.frozen? ⟨g, 0, none⟩ = false ∧ w.frozen? ⟨g, 1, none⟩ = false ∧ w.frozen? ⟨g, 2, none⟩ = false ∧ w.frozen? ⟨g, 3, none⟩ = false ∧ w.frozen? ⟨g, 4, none⟩ = false ∧ w.frozen? ⟨g, 5, none⟩ = false :=
  ⟨blk_free H 0, blk_free H 1, blk_free H 2, blk_free H 3, blk_free H 4, blk_free H 5⟩
theorem NB.drew {w W : World} {k s d q a : Int} {y : Value} (h : NB w W k s d q a y) : NB w W.drew k s d q a y := ⟨h.box, h.res, h.ext.drew⟩
theorem NB.alloc {w W : World} {k s d q a : Int} {y : Value} (h : NB w W k s d q a y) (o : Obj) : NB w (W.alloc o) k s d q a y := ⟨blk_alloc h.box o, blk_alloc h.res o, h.ext.alloc o⟩
section
variable {w W : World} {k s d q a : Int} {y : Value}
theorem NB.far (h : NB w W k s d q a y) (j : Nat) (u : Value) : (W.setCell ⟨w.heap.size, j, none⟩ u).heap[w.heap.size + 1]? = some (.cells #[.int .i64 0, .int .i64 0, .int .i64 0, .int .i64 0, .int .i64 0, .slice none 0 0] 39 (0, 0)) ∧ Ext w (W.setCell ⟨w.heap.size, j, none⟩ u) :=
  ⟨blk_far h.res (by show w.heap.size + 1 ≠ w.heap.size; omega) u, h.ext.setCell (Nat.le_refl _) u⟩
theorem NB.set0 (h : NB w W k s d q a y) (x : Int) : NB w (W.setCell ⟨w.heap.size, 0, none⟩ (.int .i64 x)) x s d q a y := ⟨by simpa using blk_set h.box 0 (.int .i64 x), (h.far 0 _).1, (h.far 0 _).2⟩
theorem NB.set1 (h : NB w W k s d q a y) (x : Int) : NB w (W.setCell ⟨w.heap.size, 1, none⟩ (.int .i64 x)) k x d q a y := ⟨by simpa using blk_set h.box 1 (.int .i64 x), (h.far 1 _).1, (h.far 1 _).2⟩
theorem NB.set2 (h : NB w W k s d q a y) (x : Int) : NB w (W.setCell ⟨w.heap.size, 2, none⟩ (.int .i64 x)) k s x q a y := ⟨by simpa using blk_set h.box 2 (.int .i64 x), (h.far 2 _).1, (h.far 2 _).2⟩
theorem NB.set3 (h : NB w W k s d q a y) (x : Int) : NB w (W.setCell ⟨w.heap.size, 3, none⟩ (.int .i64 x)) k s d x a y := ⟨by simpa using blk_set h.box 3 (.int .i64 x), (h.far 3 _).1, (h.far 3 _).2⟩
theorem NB.set4 (h : NB w W k s d q a y) (x : Int) : NB w (W.setCell ⟨w.heap.size, 4, none⟩ (.int .i64 x)) k s d q x y := ⟨by simpa using blk_set h.box 4 (.int .i64 x), (h.far 4 _).1, (h.far 4 _).2⟩
theorem NB.set5 (h : NB w W k s d q a y) (x : Value) : NB w (W.setCell ⟨w.heap.size, 5, none⟩ x) k s d q a x := ⟨by simpa using blk_set h.box 5 x, (h.far 5 _).1, (h.far 5 _).2⟩
end

/-- a packet that is mostly right -/
def p1P (p : Pkt) : Pkt := if 1 + p.kind % 3 = 2 then ⟨1 + p.kind % 3, 1 + p.src % 1073741824, p.dst % 1073741824, 1 + p.seq % 1073741824, p.ack % 1073741824, p.body⟩ else ⟨1 + p.kind % 3, 1 + p.src % 1073741824, p.dst % 1073741824, 0, p.ack % 1073741824, []⟩
def swP (p : Pkt) (which : Int) : Pkt := if which % 12 = 0 then { p with seq := 0 } else if which % 12 = 1 then { p with src := 0 } else if which % 12 = 2 then { p with dst := 1073741825 } else if which % 12 = 3 then { p with body := [1] } else p
def nearP (p : Pkt) (which : Int) : Pkt := swP (p1P p) which

theorem OwnV_new' {α : Type} {f : α → Value} (w : World) (n : Nat) (hn : w.heap.size = n) (x : α) (e : TypeId) : OwnV f e w.heap.size (w.alloc (.cells #[f x] e)) (.slice (some ⟨n, 0, none⟩) 1 1) [x] := by
  subst hn; exact OwnV_new w x e
def PktPost (p : Pkt) (w : World) (e : Ending) (w' : World) : Prop := ∃ v, e = .returned v ∧ PktAt w' v p ∧ Ext w w'
theorem PktPost.mk {p : Pkt} {w w' : World} {v : Value} (he : Ext w w') (h : Ext w w' → PktAt w' v p) : PktPost p w (.returned v) w' := ⟨v, rfl, h he, he⟩

/-- the body of what is handed back is old, unless a new one was asked for -/
theorem agg_body {w0 : World} {a b c d e y : Value} {p : Pkt} (h : PktAt w0 (.agg #[a, b, c, d, e, y]) p) : InB w0 y p.body := by
  obtain ⟨y0, e0, hi⟩ := h
  simp only [Value.agg.injEq, Array.mk.injEq, List.cons.injEq] at e0
  rw [e0.2.2.2.2.2.1]
  exact hi
def NearPost (v0 : Value) (p : Pkt) (which : Int) (w : World) (e : Ending) (w' : World) : Prop := ∃ v, e = .returned v ∧ PktAt w' v (nearP p which) ∧ (which % 12 ≠ 3 → ∀ w0, PktAt w0 v0 p → PktAt w0 v (nearP p which)) ∧ Ext w w'
theorem NearPost.mk {v0 : Value} {p : Pkt} {which : Int} {w w' : World} {v : Value} (he : Ext w w') (h : Ext w w' → PktAt w' v (nearP p which) ∧ (which % 12 ≠ 3 → ∀ w0, PktAt w0 v0 p → PktAt w0 v (nearP p which))) : NearPost v0 p which w (.returned v) w' := ⟨v, rfl, (h he).1, (h he).2, he⟩

set_option maxHeartbeats 2000000 in
set_option maxRecDepth 100000 in
theorem near_full (v : Value) (p : Pkt) (which : Int) (w : World) (hp : PktAt w v p) :
    Calls Try.prog 22 #[v, .int .i64 which] w (NearPost v p which w) := by
  obtain ⟨y, rfl, hy⟩ := hp
  have hY := hy
  obtain ⟨A, c, rfl, hcap, hr⟩ := hy
  have m1 := Int.emod_nonneg p.kind (show (3 : Int) ≠ 0 by omega)
  have m1' := Int.emod_lt_of_pos p.kind (show (0 : Int) < 3 by omega)
  have m2 := Int.emod_nonneg p.src (show (1073741824 : Int) ≠ 0 by omega)
  have m2' := Int.emod_lt_of_pos p.src (show (0 : Int) < 1073741824 by omega)
  have m3 := Int.emod_nonneg p.seq (show (1073741824 : Int) ≠ 0 by omega)
  have m3' := Int.emod_lt_of_pos p.seq (show (0 : Int) < 1073741824 by omega)
  go_enter Try.func22, Try.ntmps22
  go_upto_region 1 with fail
  obtain ⟨W, hW, hN⟩ : ∃ W, W = (w.alloc (.cells #[.int .i64 p.kind, .int .i64 p.src, .int .i64 p.dst, .int .i64 p.seq, .int .i64 p.ack, .slice A p.body.length c] 39)).alloc (.cells #[.int .i64 0, .int .i64 0, .int .i64 0, .int .i64 0, .int .i64 0, .slice none 0 0] 39) ∧ NB w W p.kind p.src p.dst p.seq p.ack (.slice A p.body.length c) := by
    refine ⟨_, rfl, blk_alloc (heap_alloc_new w _) _, ?_, ((Ext.refl w).alloc _).alloc _⟩
    have := heap_alloc_new (w.alloc (.cells #[.int .i64 p.kind, .int .i64 p.src, .int .i64 p.dst, .int .i64 p.seq, .int .i64 p.ack, .slice A p.body.length c] 39)) (.cells #[.int .i64 0, .int .i64 0, .int .i64 0, .int .i64 0, .int .i64 0, .slice none 0 0] 39)
    simpa using this
  rw [← hW]
  clear hW
  obtain ⟨q0, q1, q2, q3, q4, q5⟩ := blk6 hN.box
  obtain ⟨f0, f1, f2, f3, f4, f5⟩ := blk6f hN.box
  go_wp2_with fail
  refine (Mod_any p.kind 3 W (by omega) (by omega)).mono ?_
  rintro e w2' ⟨rfl, rfl⟩
  -- NEAR REST
  go_wp2_with fail
  replace hN := hN.set0 (1 + p.kind % 3)
  clear q0 q1 q2 q3 q4 q5 f0 f1 f2 f3 f4 f5
  generalize hkd : 1 + p.kind % 3 = kd at *
  have HKD := Lib.hid hkd
  clear hkd m1 m1'
  generalize W.setCell ⟨w.heap.size, 0, none⟩ (.int .i64 kd) = W1 at *
  obtain ⟨q0, q1, q2, q3, q4, q5⟩ := blk6 hN.box
  obtain ⟨f0, f1, f2, f3, f4, f5⟩ := blk6f hN.box
  obtain ⟨r0, r1, r2, r3, r4, r5⟩ := blk6 hN.res
  obtain ⟨g0, g1, g2, g3, g4, g5⟩ := blk6f hN.res
  have hws : IntKind.i64.wrap (1 + p.src % 1073741824) = 1 + p.src % 1073741824 := by rw [IntKind.wrap_i64]; omega
  refine wp_region_still_tail 11 (by kernel_rfl) (by kernel_rfl) ?_
  simp only [List.take_succ_cons, List.take_zero, List.drop_succ_cons, List.drop_zero]
  still_step
  still_step
  still_call (Mod_still p.src 1073741824 _ (by omega) (by omega))
  still_step
  still_step
  still_step
  still_call (Mod_still p.dst 1073741824 _ (by omega) (by omega))
  still_step
  still_step
  still_call (Mod_still p.ack 1073741824 _ (by omega) (by omega))
  still_step
  clear hws
  refine wpStill_nil ?_
  change wpList _ _ _ _ _ W1.drew
  replace hN := hN.drew
  clear q0 q1 q2 q3 q4 q5 f0 f1 f2 f3 f4 f5 r0 r1 r2 r3 r4 r5 g0 g1 g2 g3 g4 g5
  generalize W1.drew = W2 at *
  obtain ⟨q0, q1, q2, q3, q4, q5⟩ := blk6 hN.box
  obtain ⟨f0, f1, f2, f3, f4, f5⟩ := blk6f hN.box
  obtain ⟨r0, r1, r2, r3, r4, r5⟩ := blk6 hN.res
  obtain ⟨g0, g1, g2, g3, g4, g5⟩ := blk6f hN.res
  generalize hsr : 1 + p.src % 1073741824 = sr at *
  generalize hds : p.dst % 1073741824 = ds at *
  generalize hac : p.ack % 1073741824 = ac at *
  have HSR := Lib.hid hsr
  have HDS := Lib.hid hds
  have HAC := Lib.hid hac
  clear hsr hds hac m2 m2'
  go_upto_if 25 with fail
  replace hN := ((hN.set1 sr).set2 ds).set4 ac
  clear q0 q1 q2 q3 q4 q5 f0 f1 f2 f3 f4 f5 r0 r1 r2 r3 r4 r5 g0 g1 g2 g3 g4 g5
  generalize ((W2.setCell ⟨w.heap.size, 1, none⟩ (.int .i64 sr)).setCell ⟨w.heap.size, 2, none⟩ (.int .i64 ds)).setCell ⟨w.heap.size, 4, none⟩ (.int .i64 ac) = W3 at *
  obtain ⟨q0, q1, q2, q3, q4, q5⟩ := blk6 hN.box
  obtain ⟨f0, f1, f2, f3, f4, f5⟩ := blk6f hN.box
  obtain ⟨r0, r1, r2, r3, r4, r5⟩ := blk6 hN.res
  obtain ⟨g0, g1, g2, g3, g4, g5⟩ := blk6f hN.res
  have HP1 : Hid (p1P p = if kd = 2 then (⟨kd, sr, ds, 1 + p.seq % 1073741824, ac, p.body⟩ : Pkt) else ⟨kd, sr, ds, 0, ac, []⟩) := Lib.hid (by rw [← HKD.out, ← HSR.out, ← HDS.out, ← HAC.out]; rfl)
  clear HKD HSR HDS HAC
  go_cut [28] (fun _ wx => ∃ (q : Int) (y : Value) (b : List UInt8), NB w wx kd sr ds q ac y ∧ (∀ w0, InB w0 (.slice A p.body.length c) p.body → InB w0 y b) ∧ p1P p = ⟨kd, sr, ds, q, ac, b⟩)
  case first =>
    by_cases hk2 : kd = 2
    · have e2 : (kd == 2) = true := by simpa using hk2
      have HK2 := Lib.hid hk2
      clear hk2
      go_wp2_with fail
      refine (Mod_any p.seq 1073741824 W3 (by omega) (by omega)).mono ?_
      rintro e w5 ⟨rfl, rfl⟩
      go_wp2_with fail
      go_meet
      exact ⟨_, _, p.body, hN.set3 _, fun _ h => h, by rw [HP1.out, if_pos HK2.out]⟩
    · have e2 : (kd == 2) = false := by simpa using hk2
      have HK2 := Lib.hid hk2
      clear hk2
      go_wp2_with fail
      go_meet
      exact ⟨_, _, [], (hN.set3 0).set5 (.slice none 0 0), fun w0 _ => InV.nil w0, by rw [HP1.out, if_neg HK2.out]⟩
  case rest =>
    clear q0 q1 q2 q3 q4 q5 f0 f1 f2 f3 f4 f5 r0 r1 r2 r3 r4 r5 g0 g1 g2 g3 g4 g5
    clear hN
    obtain ⟨q, y, b, hN, hbA, hp1⟩ := hcut
    have hb := hbA w hY
    have HBA := Lib.hid hbA
    clear hbA
    have HPW : Hid (nearP p which = swP ⟨kd, sr, ds, q, ac, b⟩ which) := Lib.hid (by rw [← hp1]; rfl)
    clear hp1 HP1
    obtain ⟨W4, rfl⟩ : ∃ W4, W4 = wc := ⟨_, rfl⟩
    obtain ⟨q0, q1, q2, q3, q4, q5⟩ := blk6 hN.box
    obtain ⟨f0, f1, f2, f3, f4, f5⟩ := blk6f hN.box
    obtain ⟨r0, r1, r2, r3, r4, r5⟩ := blk6 hN.res
    obtain ⟨g0, g1, g2, g3, g4, g5⟩ := blk6f hN.res
    obtain ⟨Y, cy, rfl, _, _⟩ := id hb
    go_wp2_with fail
    refine (Mod_any which 12 W4 (by omega) (by omega)).mono ?_
    rintro e w5 ⟨rfl, rfl⟩
    generalize hwm : which % 12 = wm at *
    have HWM := Lib.hid hwm
    clear hwm
    by_cases c0 : wm = 0
    · have d0 : (wm == 0) = true := by simpa using c0
      have C0 := Lib.hid c0
      clear c0
      have hM := hN.set3 0
      go_wp2
      refine bodyPost_ret (v := .agg #[.int .i64 kd, .int .i64 sr, .int .i64 ds, .int .i64 0, .int .i64 ac, .slice Y b.length cy]) (by simp [results, Try.results22, go_sem, r0, r1, r2, r3, r4, r5]) rfl ?_
      refine NearPost.mk ((((((hM.ext.setCell (p := ⟨w.heap.size + 1, 0, none⟩) (Nat.le_succ _) _).setCell (p := ⟨w.heap.size + 1, 1, none⟩) (Nat.le_succ _) _).setCell (p := ⟨w.heap.size + 1, 2, none⟩) (Nat.le_succ _) _).setCell (p := ⟨w.heap.size + 1, 3, none⟩) (Nat.le_succ _) _).setCell (p := ⟨w.heap.size + 1, 4, none⟩) (Nat.le_succ _) _).setCell (p := ⟨w.heap.size + 1, 5, none⟩) (Nat.le_succ _) _) fun hEE => ?_
      rw [HPW.out, swP, HWM.out, if_pos C0.out]
      exact ⟨⟨_, rfl, hb.ext hEE⟩, fun _ w0 h0 => ⟨_, rfl, HBA.out w0 (agg_body h0)⟩⟩
    · have d0 : (wm == 0) = false := by simpa using c0
      have C0 := Lib.hid c0
      clear c0
      by_cases c1 : wm = 1
      · have d1 : (wm == 1) = true := by simpa using c1
        have C1 := Lib.hid c1
        clear c1
        have hM := hN.set1 0
        go_wp2
        refine bodyPost_ret (v := .agg #[.int .i64 kd, .int .i64 0, .int .i64 ds, .int .i64 q, .int .i64 ac, .slice Y b.length cy]) (by simp [results, Try.results22, go_sem, r0, r1, r2, r3, r4, r5]) rfl ?_
        refine NearPost.mk ((((((hM.ext.setCell (p := ⟨w.heap.size + 1, 0, none⟩) (Nat.le_succ _) _).setCell (p := ⟨w.heap.size + 1, 1, none⟩) (Nat.le_succ _) _).setCell (p := ⟨w.heap.size + 1, 2, none⟩) (Nat.le_succ _) _).setCell (p := ⟨w.heap.size + 1, 3, none⟩) (Nat.le_succ _) _).setCell (p := ⟨w.heap.size + 1, 4, none⟩) (Nat.le_succ _) _).setCell (p := ⟨w.heap.size + 1, 5, none⟩) (Nat.le_succ _) _) fun hEE => ?_
        rw [HPW.out, swP, HWM.out, if_neg C0.out, if_pos C1.out]
        exact ⟨⟨_, rfl, hb.ext hEE⟩, fun _ w0 h0 => ⟨_, rfl, HBA.out w0 (agg_body h0)⟩⟩
      · have d1 : (wm == 1) = false := by simpa using c1
        have C1 := Lib.hid c1
        clear c1
        by_cases c2 : wm = 2
        · have d2 : (wm == 2) = true := by simpa using c2
          have C2 := Lib.hid c2
          clear c2
          have hM := hN.set2 1073741825
          go_wp2
          refine bodyPost_ret (v := .agg #[.int .i64 kd, .int .i64 sr, .int .i64 1073741825, .int .i64 q, .int .i64 ac, .slice Y b.length cy]) (by simp [results, Try.results22, go_sem, r0, r1, r2, r3, r4, r5]) rfl ?_
          refine NearPost.mk ((((((hM.ext.setCell (p := ⟨w.heap.size + 1, 0, none⟩) (Nat.le_succ _) _).setCell (p := ⟨w.heap.size + 1, 1, none⟩) (Nat.le_succ _) _).setCell (p := ⟨w.heap.size + 1, 2, none⟩) (Nat.le_succ _) _).setCell (p := ⟨w.heap.size + 1, 3, none⟩) (Nat.le_succ _) _).setCell (p := ⟨w.heap.size + 1, 4, none⟩) (Nat.le_succ _) _).setCell (p := ⟨w.heap.size + 1, 5, none⟩) (Nat.le_succ _) _) fun hEE => ?_
          rw [HPW.out, swP, HWM.out, if_neg C0.out, if_neg C1.out, if_pos C2.out]
          exact ⟨⟨_, rfl, hb.ext hEE⟩, fun _ w0 h0 => ⟨_, rfl, HBA.out w0 (agg_body h0)⟩⟩
        · have d2 : (wm == 2) = false := by simpa using c2
          have C2 := Lib.hid c2
          clear c2
          by_cases c3 : wm = 3
          · have d3 : (wm == 3) = true := by simpa using c3
            have C3 := Lib.hid c3
            clear c3
            have hM := (hN.set5 (.slice (some ⟨W4.heap.size, 0, none⟩) 1 1)).alloc (.cells #[.int .u8 1] 5)
            have lt4 := World.block_lt_of_cell? _ _ r0
            simp only at lt4
            have lt3 : w.heap.size < W4.heap.size := by omega
            have hone := OwnV_new' (f := bv) (W4.setCell ⟨w.heap.size, 5, none⟩ (.slice (some ⟨W4.heap.size, 0, none⟩) 1 1)) W4.heap.size (by simp [World.setCell]) 1 5
            go_upto_region 15 with fail
            unfold bv at hone
            change OwnV bv _ _ ((W4.setCell ⟨w.heap.size, 5, none⟩ (.slice (some ⟨W4.heap.size, 0, none⟩) 1 1)).alloc (.cells #[.int .u8 1] 5)) _ _ at hone
            generalize (W4.setCell ⟨w.heap.size, 5, none⟩ (.slice (some ⟨W4.heap.size, 0, none⟩) 1 1)).alloc (.cells #[.int .u8 1] 5) = W5 at hM hone ⊢
            clear q0 q1 q2 q3 q4 q5 r0 r1 r2 r3 r4 r5 g0 g1 g2 g3 g4 g5 f0 f1 f2 f3 f4 f5
            obtain ⟨q0, q1, q2, q3, q4, q5⟩ := blk6 hM.box
            obtain ⟨r0, r1, r2, r3, r4, r5⟩ := blk6 hM.res
            obtain ⟨g0, g1, g2, g3, g4, g5⟩ := blk6f hM.res
            go_wp2
            refine bodyPost_ret (v := .agg #[.int .i64 kd, .int .i64 sr, .int .i64 ds, .int .i64 q, .int .i64 ac, .slice (some ⟨W4.heap.size, 0, none⟩) 1 1]) (by simp [results, Try.results22, go_sem, r0, r1, r2, r3, r4, r5]) rfl ?_
            refine NearPost.mk ((((((hM.ext.setCell (p := ⟨w.heap.size + 1, 0, none⟩) (Nat.le_succ _) _).setCell (p := ⟨w.heap.size + 1, 1, none⟩) (Nat.le_succ _) _).setCell (p := ⟨w.heap.size + 1, 2, none⟩) (Nat.le_succ _) _).setCell (p := ⟨w.heap.size + 1, 3, none⟩) (Nat.le_succ _) _).setCell (p := ⟨w.heap.size + 1, 4, none⟩) (Nat.le_succ _) _).setCell (p := ⟨w.heap.size + 1, 5, none⟩) (Nat.le_succ _) _) fun hEE => ?_
            rw [HPW.out, swP, HWM.out, if_neg C0.out, if_neg C1.out, if_neg C2.out, if_pos C3.out]
            refine ⟨?_, fun h _ _ => absurd C3.out h⟩
            exact ⟨_, rfl, ((((((hone.set_far (p := ⟨w.heap.size + 1, 0, none⟩) (by simp [Value.ownBlock]; omega) _).set_far (p := ⟨w.heap.size + 1, 1, none⟩) (by simp [Value.ownBlock]; omega) _).set_far (p := ⟨w.heap.size + 1, 2, none⟩) (by simp [Value.ownBlock]; omega) _).set_far (p := ⟨w.heap.size + 1, 3, none⟩) (by simp [Value.ownBlock]; omega) _).set_far (p := ⟨w.heap.size + 1, 4, none⟩) (by simp [Value.ownBlock]; omega) _).set_far (p := ⟨w.heap.size + 1, 5, none⟩) (by simp [Value.ownBlock]; omega) _).inV⟩
          · have d3 : (wm == 3) = false := by simpa using c3
            have C3 := Lib.hid c3
            clear c3
            have hM := hN
            go_wp2
            refine bodyPost_ret (v := .agg #[.int .i64 kd, .int .i64 sr, .int .i64 ds, .int .i64 q, .int .i64 ac, .slice Y b.length cy]) (by simp [results, Try.results22, go_sem, r0, r1, r2, r3, r4, r5]) rfl ?_
            refine NearPost.mk ((((((hM.ext.setCell (p := ⟨w.heap.size + 1, 0, none⟩) (Nat.le_succ _) _).setCell (p := ⟨w.heap.size + 1, 1, none⟩) (Nat.le_succ _) _).setCell (p := ⟨w.heap.size + 1, 2, none⟩) (Nat.le_succ _) _).setCell (p := ⟨w.heap.size + 1, 3, none⟩) (Nat.le_succ _) _).setCell (p := ⟨w.heap.size + 1, 4, none⟩) (Nat.le_succ _) _).setCell (p := ⟨w.heap.size + 1, 5, none⟩) (Nat.le_succ _) _) fun hEE => ?_
            rw [HPW.out, swP, HWM.out, if_neg C0.out, if_neg C1.out, if_neg C2.out, if_neg C3.out]
            exact ⟨⟨_, rfl, hb.ext hEE⟩, fun _ w0 h0 => ⟨_, rfl, HBA.out w0 (agg_body h0)⟩⟩
theorem near_any (v : Value) (p : Pkt) (which : Int) (w : World) (hp : PktAt w v p) :
    Calls Try.prog 22 #[v, .int .i64 which] w (PktPost (nearP p which) w) :=
  (near_full v p which w hp).mono fun _ _ ⟨v, he, h1, _, h2⟩ => ⟨v, he, h1, h2⟩
end Go.Proofs.Ytoeibcpjmoekpaa
