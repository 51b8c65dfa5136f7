/- The contract of packet.parse. -/
import Derived.Test.YtnobepobalpccaaPacketH
import Derived.Test.YtnobepobalpccaaPacketG
namespace Go.Proofs.Ytnobepobalpccaa
open Go.RowKit
set_option linter.unusedVariables false

theorem run_slice_l {P : Program} {t e : TypeId} {i : TypeInfo} (ht : P.underlying t = some (.slice e)) (hi : P.info? e = some i) (A : Option Addr) (n c lo : Nat) (h1 : lo ≤ n) (h2 : n ≤ c) (w : World) :
    (Instr.slice t (.slice A n c) (some (.int .i64 (lo : Int))) none none).run P w = .ok (.slice (if c = lo then A else A.map (·.add (lo * i.size))) (n - lo) (c - lo)) w := by
  simp [Instr.slice, run_underlying ht, Instr.sliceBounds, Instr.sliceBound, asIntOf, h1, sizeOf, typeInfo, hi]
/-- x[lo:] -/
theorem InV.suf {α : Type} {f : α → Value} {P : Program} {t e : TypeId} {i : TypeInfo} (ht : P.underlying t = some (.slice e)) (hi : P.info? e = some i) (hs : i.size = 1) {w : World} {x : Value} {l : List α} (hx : InV f w x l) (lo : Nat) (h1 : lo ≤ l.length) :
    ∃ y, (∀ W, (Instr.slice t x (some (.int .i64 (lo : Int))) none none).run P W = .ok y W) ∧ InV f w y (l.drop lo) := by
  obtain ⟨A, c, rfl, hc, hr⟩ := hx
  refine ⟨_, fun W => run_slice_l ht hi A _ c lo h1 hc W, ?_⟩
  rw [hs, Nat.mul_one]
  have hl : (l.drop lo).length = l.length - lo := by simp
  refine ⟨_, c - lo, by rw [hl], by omega, ?_⟩
  rw [List.map_drop]
  exact hr.sub c lo (fun e => List.drop_of_length_le (by simp; omega))
theorem sufB {w : World} {x : Value} {l : List UInt8} (hx : InB w x l) (lo : Nat) (h1 : lo ≤ l.length) : ∃ y, (∀ W, (Instr.slice 32 x (some (.int .i64 (lo : Int))) none none).run Try.prog W = .ok y W) ∧ InB w y (l.drop lo) := by
  obtain ⟨i0, hi, hs⟩ := u8_parts
  exact hx.suf Try.underlying32 hi hs lo h1

/-- a packet in new memory -/
def PktOwn (base : Nat) (w : World) (v : Value) (p : Pkt) : Prop := ∃ y, v = .agg #[.int .i64 p.kind, .int .i64 p.src, .int .i64 p.dst, .int .i64 p.seq, .int .i64 p.ack, y] ∧ OwnV bv 5 base w y p.body
theorem PktOwn.at_ {base : Nat} {w : World} {v : Value} {p : Pkt} (h : PktOwn base w v p) : PktAt w v p := by
  obtain ⟨y, rfl, hy⟩ := h
  exact ⟨y, rfl, hy.inV⟩
theorem PktOwn.ext {base : Nat} {w w' : World} {v : Value} {p : Pkt} (h : PktOwn base w v p) (he : Ext w w') : PktOwn base w' v p := by
  obtain ⟨y, rfl, hy⟩ := h
  exact ⟨y, rfl, hy.ext he⟩
theorem PktOwn.low {base base' : Nat} {w : World} {v : Value} {p : Pkt} (h : PktOwn base w v p) (hb : base' ≤ base) : PktOwn base' w v p := by
  obtain ⟨y, rfl, hy⟩ := h
  exact ⟨y, rfl, hy.low hb⟩
def ParsePost (l : List UInt8) (w : World) (e : Ending) (w' : World) : Prop := ∃ v r, e = .returned (.tuple #[v, .bool r]) ∧ ((okL l ∧ r = true ∧ PktOwn w.heap.size w' v (pktL l)) ∨ (¬ okL l ∧ r = false ∧ PktOwn w.heap.size w' v pk0)) ∧ Ext w w'

/-- the numbers that have been read -/
def ncell (l : List UInt8) (j i : Nat) : Value := .int .i64 (if i < j then val l i else 0)
/-- the boxes of the result and of the numbers -/
structure PB (w W : World) (l : List UInt8) (j : Nat) : Prop where
  res : W.heap[w.heap.size]? = some (.cells #[.int .i64 0, .int .i64 0, .int .i64 0, .int .i64 0, .int .i64 0, .slice none 0 0] 56 (0, 0))
  num : W.heap[w.heap.size + 1]? = some (.cells #[ncell l j 0, ncell l j 1, ncell l j 2, ncell l j 3, ncell l j 4] 66 (0, 0))
  ext : Ext w W
theorem PB.grow {w W W' : World} {l : List UInt8} {j : Nat} (h : PB w W l j) (he : Ext W W') : PB w W' l j := ⟨he.heap h.res, he.heap h.num, h.ext.trans he⟩
theorem PB.step {w W : World} {l : List UInt8} {j : Nat} (h : PB w W l j) (hj : j < 5) : PB w (W.setCell ⟨w.heap.size + 1, j, none⟩ (.int .i64 (val l j))) l (j + 1) := by
  refine ⟨blk_far h.res (by show w.heap.size ≠ w.heap.size + 1; omega) _, ?_, h.ext.setCell (Nat.le_succ _) _⟩
  have := blk_set h.num j (.int .i64 (val l j))
  rw [this]
  rcases (show j = 0 ∨ j = 1 ∨ j = 2 ∨ j = 3 ∨ j = 4 by omega) with rfl | rfl | rfl | rfl | rfl <;> simp [ncell]
theorem blk5 {w : World} {g : Nat} {a b c d e : Value} {t : TypeId} (H : w.heap[g]? = some (.cells #[a, b, c, d, e] t (0, 0))) :
    w.cell? ⟨g, 0, none⟩ = some a ∧ w.cell? ⟨g, 1, none⟩ = some b ∧ w.cell? ⟨g, 2, none⟩ = some c ∧ w.cell? ⟨g, 3, none⟩ = some d ∧ w.cell? ⟨g, 4, none⟩ = some e :=
  ⟨blk_at H 0 a rfl, blk_at H 1 b rfl, blk_at H 2 c rfl, blk_at H 3 d rfl, blk_at H 4 e rfl⟩

set_option maxHeartbeats 2000000 in
set_option maxRecDepth 100000 in
theorem parse_any (x : Value) (l : List UInt8) (w : World) (hx : InB w x l) (h1 : 1 ≤ l.length) (hl : l.length ≤ 1000000) :
    Calls Try.prog 27 #[x] w (ParsePost l w) := by
  have hX := hx
  obtain ⟨A, c, rfl, hcap, hr⟩ := hx
  go_enter Try.func27, Try.ntmps27
  -- PARSE REST
  go_wp2_with fail
  obtain ⟨W, hW, hP⟩ : ∃ W, W = (w.alloc (.cells #[.int .i64 0, .int .i64 0, .int .i64 0, .int .i64 0, .int .i64 0, .slice none 0 0] 56)).alloc (.cells #[.int .i64 0, .int .i64 0, .int .i64 0, .int .i64 0, .int .i64 0] 66) ∧ PB w W l 0 := by
    refine ⟨_, rfl, blk_alloc (heap_alloc_new w _) _, ?_, ((Ext.refl w).alloc _).alloc _⟩
    have := heap_alloc_new (w.alloc (.cells #[.int .i64 0, .int .i64 0, .int .i64 0, .int .i64 0, .int .i64 0, .slice none 0 0] 56)) (.cells #[.int .i64 0, .int .i64 0, .int .i64 0, .int .i64 0, .int .i64 0] 66)
    simpa [ncell] using this
  rw [← hW]
  clear hW
  go_loopw [5, 10] (fun a i wr => ∃ j : Nat, j ≤ 5 ∧ i = .int .i64 (j : Int) ∧ a = .int .i64 (pos l j) ∧ (∀ i, i < j → err l i = 0) ∧ PB w wr l j) (fun _ i _ => 5 - (intOf i).toNat)
  case atStart => exact ⟨0, by omega, rfl, rfl, fun i hi => absurd hi (by omega), hP⟩
  case round =>
    clear hP
    obtain ⟨j, hj, rfl, rfl, hall, hP⟩ := hrel
    obtain ⟨wo, rfl⟩ : ∃ wo : World, wo = wr := ⟨_, rfl⟩
    have HA := Lib.hid hall
    have hpr := pos_range hall h1
    clear hall
    by_cases hj5 : j < 5
    · have hij : (j : Int) < 5 := by omega
      go_wp2_with fail
      refine (Uint_any _ l (pos l j) wo (hX.ext hP.ext) (by omega)).mono ?_
      rintro e w1 ⟨rfl, he1⟩
      have hP1 := hP.grow he1
      clear hP he1
      have HPS : Hid (pos l (j + 1) = (uintR l (pos l j)).2.1) := Lib.hid rfl
      have HVS : Hid (val l j = (uintR l (pos l j)).1) := Lib.hid rfl
      have HES : Hid (err l j = (uintR l (pos l j)).2.2) := Lib.hid rfl
      generalize (uintR l (pos l j)).1 = uv at *
      generalize (uintR l (pos l j)).2.1 = un at *
      generalize (uintR l (pos l j)).2.2 = ue at *
      by_cases hue : ue = 0
      · have e1 : (ue != 0) = false := by simp [hue]
        have HUE := Lib.hid hue
        clear hue
        have hP2 := hP1.step hj5
        rw [HVS.out] at hP2
        have hfz := blk_free hP1.num j
        have hcj : ∃ z, w1.cell? ⟨w.heap.size + 1, j, none⟩ = some z := by
          rcases (show j = 0 ∨ j = 1 ∨ j = 2 ∨ j = 3 ∨ j = 4 by omega) with rfl | rfl | rfl | rfl | rfl
          · exact ⟨_, (blk5 hP1.num).1⟩
          · exact ⟨_, (blk5 hP1.num).2.1⟩
          · exact ⟨_, (blk5 hP1.num).2.2.1⟩
          · exact ⟨_, (blk5 hP1.num).2.2.2.1⟩
          · exact ⟨_, (blk5 hP1.num).2.2.2.2⟩
        obtain ⟨z, hcz⟩ := hcj
        go_wp2_with fail
        go_roundw
        case rel => exact ⟨j + 1, by omega, by go_num, by rw [HPS.out], fun i hi => by
          by_cases e : i = j
          · subst e; rw [HES.out, HUE.out]
          · exact HA.out i (by omega), hP2⟩
        case measure => simp [intOf]; omega
      · have e1 : (ue != 0) = true := by simpa using hue
        have HUE := Lib.hid hue
        clear hue
        obtain ⟨r0, r1, r2, r3, r4, r5⟩ := blk6 hP1.res
        obtain ⟨g0, g1, g2, g3, g4, g5⟩ := blk6f hP1.res
        have hE1 := hP1.ext
        go_wp2
        refine bodyPost_ret (v := .tuple #[.agg #[.int .i64 0, .int .i64 0, .int .i64 0, .int .i64 0, .int .i64 0, .slice none 0 0], .bool false]) (by simp [results, Try.results27, go_sem, r0, r1, r2, r3, r4, r5]) rfl ?_
        exact ⟨_, _, rfl, .inr ⟨fun h => HUE.out (by rw [← HES.out]; exact h.1 j hj5), rfl, _, rfl, OwnV.nil _⟩, (((((hE1.setCell (p := ⟨w.heap.size, 0, none⟩) (Nat.le_refl _) _).setCell (p := ⟨w.heap.size, 1, none⟩) (Nat.le_refl _) _).setCell (p := ⟨w.heap.size, 2, none⟩) (Nat.le_refl _) _).setCell (p := ⟨w.heap.size, 3, none⟩) (Nat.le_refl _) _).setCell (p := ⟨w.heap.size, 4, none⟩) (Nat.le_refl _) _).setCell (p := ⟨w.heap.size, 5, none⟩) (Nat.le_refl _) _⟩
    · obtain rfl : j = 5 := by omega
      obtain ⟨r0, r1, r2, r3, r4, r5⟩ := blk6 hP.res
      obtain ⟨g0, g1, g2, g3, g4, g5⟩ := blk6f hP.res
      obtain ⟨n0, n1, n2, n3, n4⟩ := blk5 hP.num
      simp only [ncell, Nat.reduceLT, if_true] at n0 n1 n2 n3 n4
      have hEo := hP.ext
      have HOK : Hid (okL l ↔ val l 4 = (l.length : Int) - pos l 5) := Lib.hid ⟨fun h => h.2, fun h => ⟨HA.out, h⟩⟩
      have HPK : Hid (pktL l = ⟨((l.getD 0 0).toNat : Int), val l 0, val l 1, val l 2, val l 3, l.drop (pos l 5).toNat⟩) := Lib.hid rfl
      generalize val l 0 = x0 at *
      generalize val l 1 = x1 at *
      generalize val l 2 = x2 at *
      generalize val l 3 = x3 at *
      generalize val l 4 = x4 at *
      generalize pos l 5 = at_ at *
      by_cases h4 : x4 = (l.length : Int) - at_
      · have e1 : (x4 != (l.length : Int) - at_) = false := by simp [h4]
        have H4 := Lib.hid (HOK.out.2 h4)
        clear h4 HOK
        obtain ⟨pn, rfl⟩ := Int.eq_ofNat_of_zero_le (show 0 ≤ at_ by omega)
        rw [Int.toNat_natCast] at HPK
        obtain ⟨ys, hsl, hin⟩ := sufB (hX.ext hEo) pn (by omega)
        obtain ⟨b0, o0, rfl, hc0⟩ := (hr.ext hEo).byte (k := 0) (by omega)
        have HG0 : Hid (l.getD 0 0 = l[0]) := Lib.hid (by simp [List.getD, List.getElem?_eq_getElem (show 0 < l.length by omega)])
        generalize l[0] = lb at *
        have hlb := lb.toNat_lt
        have hc0' : wo.cell? ⟨b0, o0, none⟩ = some (.int .u8 (lb.toNat : Int)) := hc0
        clear hc0
        have hl0 : (0 : Int) < (l.length : Int) := by omega
        have hl0' : 0 < l.length := by omega
        go_wp2_with fail
        refine wp_region_X #[true, true, true, true, true, true, true, true, true, true, true, true, true, true, true, true, true, false, false] 17 2 (by kernel_rfl) rfl ?_
        refine wpX_v 0 (.slice (some ⟨b0, o0, none⟩) l.length c) rfl rfl (by kernel_rfl) (by kernel_rfl) (by kernel_rfl) (fun _ _ _ _ h => h) (by kernel_rfl) rfl (by rfl) (fun W hW => by
          have hc0'' := (((Ext.refl wo).drew).trans hW).cell hc0'
          have n0'' := (((Ext.refl wo).drew).trans hW).cell n0
          have n1'' := (((Ext.refl wo).drew).trans hW).cell n1
          have n2'' := (((Ext.refl wo).drew).trans hW).cell n2
          have n3'' := (((Ext.refl wo).drew).trans hW).cell n3
          go_simp <;> first | rfl | (rw [IntKind.wrap_i64]; omega)) ?_
        simp only [List.setIfInBounds_toArray, List.set_cons_zero, List.set_cons_succ]
        refine wpX_v 1 (.pointer (some ⟨b0, o0, none⟩)) rfl rfl (by kernel_rfl) (by kernel_rfl) (by kernel_rfl) (fun _ _ _ _ h => h) (by kernel_rfl) rfl (by rfl) (fun W hW => by
          have hc0'' := (((Ext.refl wo).drew).trans hW).cell hc0'
          have n0'' := (((Ext.refl wo).drew).trans hW).cell n0
          have n1'' := (((Ext.refl wo).drew).trans hW).cell n1
          have n2'' := (((Ext.refl wo).drew).trans hW).cell n2
          have n3'' := (((Ext.refl wo).drew).trans hW).cell n3
          go_simp <;> first | rfl | (rw [IntKind.wrap_i64]; omega)) ?_
        simp only [List.setIfInBounds_toArray, List.set_cons_zero, List.set_cons_succ]
        refine wpX_v 2 (.int .u8 (lb.toNat : Int)) rfl rfl (by kernel_rfl) (by kernel_rfl) (by kernel_rfl) (fun _ _ _ _ h => h) (by kernel_rfl) rfl (by rfl) (fun W hW => by
          have hc0'' := (((Ext.refl wo).drew).trans hW).cell hc0'
          have n0'' := (((Ext.refl wo).drew).trans hW).cell n0
          have n1'' := (((Ext.refl wo).drew).trans hW).cell n1
          have n2'' := (((Ext.refl wo).drew).trans hW).cell n2
          have n3'' := (((Ext.refl wo).drew).trans hW).cell n3
          go_simp <;> first | rfl | (rw [IntKind.wrap_i64]; omega)) ?_
        simp only [List.setIfInBounds_toArray, List.set_cons_zero, List.set_cons_succ]
        refine wpX_v 3 (.int .i64 (lb.toNat : Int)) rfl rfl (by kernel_rfl) (by kernel_rfl) (by kernel_rfl) (fun _ _ _ _ h => h) (by kernel_rfl) rfl (by rfl) (fun W hW => by
          have hc0'' := (((Ext.refl wo).drew).trans hW).cell hc0'
          have n0'' := (((Ext.refl wo).drew).trans hW).cell n0
          have n1'' := (((Ext.refl wo).drew).trans hW).cell n1
          have n2'' := (((Ext.refl wo).drew).trans hW).cell n2
          have n3'' := (((Ext.refl wo).drew).trans hW).cell n3
          go_simp <;> first | rfl | (rw [IntKind.wrap_i64]; omega)) ?_
        simp only [List.setIfInBounds_toArray, List.set_cons_zero, List.set_cons_succ]
        refine wpX_v 4 (.pointer (some ⟨w.heap.size + 1, 0, none⟩)) rfl rfl (by kernel_rfl) (by kernel_rfl) (by kernel_rfl) (fun _ _ _ _ h => h) (by kernel_rfl) rfl (by rfl) (fun W hW => by
          have hc0'' := (((Ext.refl wo).drew).trans hW).cell hc0'
          have n0'' := (((Ext.refl wo).drew).trans hW).cell n0
          have n1'' := (((Ext.refl wo).drew).trans hW).cell n1
          have n2'' := (((Ext.refl wo).drew).trans hW).cell n2
          have n3'' := (((Ext.refl wo).drew).trans hW).cell n3
          go_simp <;> first | rfl | (rw [IntKind.wrap_i64]; omega)) ?_
        simp only [List.setIfInBounds_toArray, List.set_cons_zero, List.set_cons_succ]
        refine wpX_v 5 (.int .i64 x0) rfl rfl (by kernel_rfl) (by kernel_rfl) (by kernel_rfl) (fun _ _ _ _ h => h) (by kernel_rfl) rfl (by rfl) (fun W hW => by
          have hc0'' := (((Ext.refl wo).drew).trans hW).cell hc0'
          have n0'' := (((Ext.refl wo).drew).trans hW).cell n0
          have n1'' := (((Ext.refl wo).drew).trans hW).cell n1
          have n2'' := (((Ext.refl wo).drew).trans hW).cell n2
          have n3'' := (((Ext.refl wo).drew).trans hW).cell n3
          go_simp <;> first | rfl | (rw [IntKind.wrap_i64]; omega)) ?_
        simp only [List.setIfInBounds_toArray, List.set_cons_zero, List.set_cons_succ]
        refine wpX_v 6 (.pointer (some ⟨w.heap.size + 1, 1, none⟩)) rfl rfl (by kernel_rfl) (by kernel_rfl) (by kernel_rfl) (fun _ _ _ _ h => h) (by kernel_rfl) rfl (by rfl) (fun W hW => by
          have hc0'' := (((Ext.refl wo).drew).trans hW).cell hc0'
          have n0'' := (((Ext.refl wo).drew).trans hW).cell n0
          have n1'' := (((Ext.refl wo).drew).trans hW).cell n1
          have n2'' := (((Ext.refl wo).drew).trans hW).cell n2
          have n3'' := (((Ext.refl wo).drew).trans hW).cell n3
          go_simp <;> first | rfl | (rw [IntKind.wrap_i64]; omega)) ?_
        simp only [List.setIfInBounds_toArray, List.set_cons_zero, List.set_cons_succ]
        refine wpX_v 7 (.int .i64 x1) rfl rfl (by kernel_rfl) (by kernel_rfl) (by kernel_rfl) (fun _ _ _ _ h => h) (by kernel_rfl) rfl (by rfl) (fun W hW => by
          have hc0'' := (((Ext.refl wo).drew).trans hW).cell hc0'
          have n0'' := (((Ext.refl wo).drew).trans hW).cell n0
          have n1'' := (((Ext.refl wo).drew).trans hW).cell n1
          have n2'' := (((Ext.refl wo).drew).trans hW).cell n2
          have n3'' := (((Ext.refl wo).drew).trans hW).cell n3
          go_simp <;> first | rfl | (rw [IntKind.wrap_i64]; omega)) ?_
        simp only [List.setIfInBounds_toArray, List.set_cons_zero, List.set_cons_succ]
        refine wpX_v 8 (.pointer (some ⟨w.heap.size + 1, 2, none⟩)) rfl rfl (by kernel_rfl) (by kernel_rfl) (by kernel_rfl) (fun _ _ _ _ h => h) (by kernel_rfl) rfl (by rfl) (fun W hW => by
          have hc0'' := (((Ext.refl wo).drew).trans hW).cell hc0'
          have n0'' := (((Ext.refl wo).drew).trans hW).cell n0
          have n1'' := (((Ext.refl wo).drew).trans hW).cell n1
          have n2'' := (((Ext.refl wo).drew).trans hW).cell n2
          have n3'' := (((Ext.refl wo).drew).trans hW).cell n3
          go_simp <;> first | rfl | (rw [IntKind.wrap_i64]; omega)) ?_
        simp only [List.setIfInBounds_toArray, List.set_cons_zero, List.set_cons_succ]
        refine wpX_v 9 (.int .i64 x2) rfl rfl (by kernel_rfl) (by kernel_rfl) (by kernel_rfl) (fun _ _ _ _ h => h) (by kernel_rfl) rfl (by rfl) (fun W hW => by
          have hc0'' := (((Ext.refl wo).drew).trans hW).cell hc0'
          have n0'' := (((Ext.refl wo).drew).trans hW).cell n0
          have n1'' := (((Ext.refl wo).drew).trans hW).cell n1
          have n2'' := (((Ext.refl wo).drew).trans hW).cell n2
          have n3'' := (((Ext.refl wo).drew).trans hW).cell n3
          go_simp <;> first | rfl | (rw [IntKind.wrap_i64]; omega)) ?_
        simp only [List.setIfInBounds_toArray, List.set_cons_zero, List.set_cons_succ]
        refine wpX_v 10 (.pointer (some ⟨w.heap.size + 1, 3, none⟩)) rfl rfl (by kernel_rfl) (by kernel_rfl) (by kernel_rfl) (fun _ _ _ _ h => h) (by kernel_rfl) rfl (by rfl) (fun W hW => by
          have hc0'' := (((Ext.refl wo).drew).trans hW).cell hc0'
          have n0'' := (((Ext.refl wo).drew).trans hW).cell n0
          have n1'' := (((Ext.refl wo).drew).trans hW).cell n1
          have n2'' := (((Ext.refl wo).drew).trans hW).cell n2
          have n3'' := (((Ext.refl wo).drew).trans hW).cell n3
          go_simp <;> first | rfl | (rw [IntKind.wrap_i64]; omega)) ?_
        simp only [List.setIfInBounds_toArray, List.set_cons_zero, List.set_cons_succ]
        refine wpX_v 11 (.int .i64 x3) rfl rfl (by kernel_rfl) (by kernel_rfl) (by kernel_rfl) (fun _ _ _ _ h => h) (by kernel_rfl) rfl (by rfl) (fun W hW => by
          have hc0'' := (((Ext.refl wo).drew).trans hW).cell hc0'
          have n0'' := (((Ext.refl wo).drew).trans hW).cell n0
          have n1'' := (((Ext.refl wo).drew).trans hW).cell n1
          have n2'' := (((Ext.refl wo).drew).trans hW).cell n2
          have n3'' := (((Ext.refl wo).drew).trans hW).cell n3
          go_simp <;> first | rfl | (rw [IntKind.wrap_i64]; omega)) ?_
        simp only [List.setIfInBounds_toArray, List.set_cons_zero, List.set_cons_succ]
        refine wpX_v 12 (.slice (some ⟨b0, o0, none⟩) l.length c) rfl rfl (by kernel_rfl) (by kernel_rfl) (by kernel_rfl) (fun _ _ _ _ h => h) (by kernel_rfl) rfl (by rfl) (fun W hW => by
          have hc0'' := (((Ext.refl wo).drew).trans hW).cell hc0'
          have n0'' := (((Ext.refl wo).drew).trans hW).cell n0
          have n1'' := (((Ext.refl wo).drew).trans hW).cell n1
          have n2'' := (((Ext.refl wo).drew).trans hW).cell n2
          have n3'' := (((Ext.refl wo).drew).trans hW).cell n3
          go_simp <;> first | rfl | (rw [IntKind.wrap_i64]; omega)) ?_
        simp only [List.setIfInBounds_toArray, List.set_cons_zero, List.set_cons_succ]
        refine wpX_v 13 (.int .i64 (pn : Int)) rfl rfl (by kernel_rfl) (by kernel_rfl) (by kernel_rfl) (fun _ _ _ _ h => h) (by kernel_rfl) rfl (by rfl) (fun W hW => by
          have hc0'' := (((Ext.refl wo).drew).trans hW).cell hc0'
          have n0'' := (((Ext.refl wo).drew).trans hW).cell n0
          have n1'' := (((Ext.refl wo).drew).trans hW).cell n1
          have n2'' := (((Ext.refl wo).drew).trans hW).cell n2
          have n3'' := (((Ext.refl wo).drew).trans hW).cell n3
          go_simp <;> first | rfl | (rw [IntKind.wrap_i64]; omega)) ?_
        simp only [List.setIfInBounds_toArray, List.set_cons_zero, List.set_cons_succ]
        refine wpX_v 14 (ys) rfl rfl (by kernel_rfl) (by kernel_rfl) (by kernel_rfl) (fun _ _ _ _ h => h) (by kernel_rfl) rfl (by rfl) (fun W hW => by
          have hc0'' := (((Ext.refl wo).drew).trans hW).cell hc0'
          have n0'' := (((Ext.refl wo).drew).trans hW).cell n0
          have n1'' := (((Ext.refl wo).drew).trans hW).cell n1
          have n2'' := (((Ext.refl wo).drew).trans hW).cell n2
          have n3'' := (((Ext.refl wo).drew).trans hW).cell n3
          go_simp <;> first | rfl | (rw [IntKind.wrap_i64]; omega)) ?_
        simp only [List.setIfInBounds_toArray, List.set_cons_zero, List.set_cons_succ]
        refine wpX_c 15 32 #[ys] rfl rfl (by kernel_rfl) rfl rfl (fun W => by go_simp) ?_
        intro W5 hW5
        refine (cloneB_any ys (l.drop pn) W5 (hin.ext (((Ext.refl wo).drew).trans hW5)) (by simp; omega)).mono ?_
        rintro e w6 ⟨y6, rfl, ho6, he6⟩
        refine ⟨_, rfl, he6, ?_⟩
        simp only [List.setIfInBounds_toArray, List.set_cons_zero, List.set_cons_succ]
        obtain ⟨Y6, cy6, rfl, _, _⟩ := ho6.inV
        have hE6 : Ext wo w6 := (((Ext.refl wo).drew).trans hW5).trans he6
        refine wpX_v 16 (.agg #[.int .i64 (lb.toNat : Int), .int .i64 x0, .int .i64 x1, .int .i64 x2, .int .i64 x3, .slice Y6 (l.drop pn).length cy6]) rfl rfl (by kernel_rfl) (by kernel_rfl) (by kernel_rfl) (fun _ _ _ _ h => h) (by kernel_rfl) rfl (by rfl) (fun W hW => by go_simp) ?_
        simp only [List.setIfInBounds_toArray, List.set_cons_zero, List.set_cons_succ]
        refine wpX_end rfl fun W7 hE7 => ?_
        refine tail_seq 17 rfl (by kernel_rfl) ?_
        simp only [List.drop_succ_cons, List.drop_zero]
        have hE67 := hE6.trans hE7
        have hres := hE67.heap hP.res
        have ho7 := ho6.ext hE7
        have hne := ho7.ne_blk hres (by decide)
        have hEw := hP.ext.trans hE67
        have hEw5 := hP.ext.trans (((Ext.refl wo).drew).trans hW5)
        clear r0 r1 r2 r3 r4 r5 g0 g1 g2 g3 g4 g5 hE6 he6 hW5 hE7 hE67 hP ho6
        obtain ⟨r0, r1, r2, r3, r4, r5⟩ := blk6 hres
        obtain ⟨g0, g1, g2, g3, g4, g5⟩ := blk6f hres
        clear hres n0 n1 n2 n3 n4
        go_wp2_with fail
        refine NoPanic.normal ?_
        go_wp2
        refine bodyPost_ret (v := .tuple #[.agg #[.int .i64 (lb.toNat : Int), .int .i64 x0, .int .i64 x1, .int .i64 x2, .int .i64 x3, .slice Y6 (l.drop pn).length cy6], .bool true]) (by simp [results, Try.results27, go_sem, r0, r1, r2, r3, r4, r5]) rfl ?_
        refine ⟨_, _, rfl, .inl ⟨H4.out, rfl, ?_⟩, (((((hEw.setCell (p := ⟨w.heap.size, 0, none⟩) (Nat.le_refl _) _).setCell (p := ⟨w.heap.size, 1, none⟩) (Nat.le_refl _) _).setCell (p := ⟨w.heap.size, 2, none⟩) (Nat.le_refl _) _).setCell (p := ⟨w.heap.size, 3, none⟩) (Nat.le_refl _) _).setCell (p := ⟨w.heap.size, 4, none⟩) (Nat.le_refl _) _).setCell (p := ⟨w.heap.size, 5, none⟩) (Nat.le_refl _) _⟩
        rw [HPK.out, HG0.out]
        refine ⟨_, rfl, ?_⟩
        exact ((((((ho7.set_far (p := ⟨w.heap.size, 0, none⟩) hne _).set_far (p := ⟨w.heap.size, 1, none⟩) hne _).set_far (p := ⟨w.heap.size, 2, none⟩) hne _).set_far (p := ⟨w.heap.size, 3, none⟩) hne _).set_far (p := ⟨w.heap.size, 4, none⟩) hne _).set_far (p := ⟨w.heap.size, 5, none⟩) hne _).low (by have := hEw5.size; omega)
      · have e1 : (x4 != (l.length : Int) - at_) = true := by simpa using h4
        have H4 : Hid (¬ okL l) := Lib.hid (fun h => h4 (HOK.out.1 h))
        clear h4
        go_wp2
        refine bodyPost_ret (v := .tuple #[.agg #[.int .i64 0, .int .i64 0, .int .i64 0, .int .i64 0, .int .i64 0, .slice none 0 0], .bool false]) (by simp [results, Try.results27, go_sem, r0, r1, r2, r3, r4, r5]) rfl ?_
        exact ⟨_, _, rfl, .inr ⟨H4.out, rfl, _, rfl, OwnV.nil _⟩, (((((hEo.setCell (p := ⟨w.heap.size, 0, none⟩) (Nat.le_refl _) _).setCell (p := ⟨w.heap.size, 1, none⟩) (Nat.le_refl _) _).setCell (p := ⟨w.heap.size, 2, none⟩) (Nat.le_refl _) _).setCell (p := ⟨w.heap.size, 3, none⟩) (Nat.le_refl _) _).setCell (p := ⟨w.heap.size, 4, none⟩) (Nat.le_refl _) _).setCell (p := ⟨w.heap.size, 5, none⟩) (Nat.le_refl _) _⟩
end Go.Proofs.Ytnobepobalpccaa
