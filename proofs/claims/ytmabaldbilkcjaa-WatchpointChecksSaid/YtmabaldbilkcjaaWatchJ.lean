/- The walk of WatchpointChecks. -/
import Derived.Test.YtmabaldbilkcjaaWatchI
namespace Go.Proofs.Ytmabaldbilkcjaa
open Go.RowKit
set_option linter.unusedVariables false

theorem Boxes3.keep2 {w wo W : World} {a b : Dat} {x1 x2 y1 y2 : Value} (h : Boxes3 w wo a b x1 x2 y1 y2) {u v : Value} {l1 : List Bool} {l2 : List Int} (o1 : OwnV Value.bool 4 w.heap.size wo u l1) (o2 : OwnV iv 3 w.heap.size wo v l2) (hK : Keep2 u.ownBlock v.ownBlock wo.drew W) : Boxes3 w W a b x1 x2 y1 y2 :=
  ⟨hK.of_ext h.ext.drew o1.ge o2.ge, hK.heap h.last (fun e => o1.ne_blk h.last (by decide) e.symm) (fun e => o2.ne_blk h.last (by decide) e.symm), hK.heap h.now (fun e => o1.ne_blk h.now (by decide) e.symm) (fun e => o2.ne_blk h.now (by decide) e.symm)⟩
theorem boxes2 (w : World) (a b : Dat) (x1 x2 y1 y2 : Value) : ∃ W, W = (w.alloc (.cells #[.int .i64 a.kind, .int .i64 a.record, x1, x2] 25)).alloc (.cells #[.int .i64 b.kind, .int .i64 b.record, y1, y2] 25) ∧ Boxes3 w W a b x1 x2 y1 y2 ∧ W.heap.size = w.heap.size + 2 := by
  refine ⟨_, rfl, ⟨((Ext.refl w).alloc _).alloc _, blk_alloc (heap_alloc_new w _) _, ?_⟩, by simp⟩
  have := heap_alloc_new (w.alloc (.cells #[.int .i64 a.kind, .int .i64 a.record, x1, x2] 25)) (.cells #[.int .i64 b.kind, .int .i64 b.record, y1, y2] 25)
  simpa using this

theorem chkD_len (a b : Dat) (h1 : a.known.length ≤ 20) (h2 : a.words.length ≤ 20) (h3 : b.known.length ≤ 20) (h4 : b.words.length ≤ 20) : (chkD a b).known.length ≤ 20 ∧ (chkD a b).words.length ≤ 20 := by
  unfold chkD
  split
  · exact ⟨by simp only [stepK_len]; exact h1, by simp only [stepW_len]; exact h2⟩
  · exact ⟨h3, h4⟩
theorem sameD_refl (a : Dat) : sameD a a := ⟨rfl, rfl, rfl, rfl, fun _ _ _ => rfl⟩
/-- one row of the table: two values -/
def RowAt (W : World) (g j : Nat) : Prop := ∃ (A B : Dat) (x1 x2 y1 y2 : Value), W.cell? ⟨g, j * 8, none⟩ = some (.int .i64 A.kind) ∧ W.cell? ⟨g, j * 8 + 1, none⟩ = some (.int .i64 A.record) ∧ W.cell? ⟨g, j * 8 + 2, none⟩ = some x1 ∧ W.cell? ⟨g, j * 8 + 3, none⟩ = some x2 ∧
  W.cell? ⟨g, j * 8 + 4, none⟩ = some (.int .i64 B.kind) ∧ W.cell? ⟨g, j * 8 + 5, none⟩ = some (.int .i64 B.record) ∧ W.cell? ⟨g, j * 8 + 6, none⟩ = some y1 ∧ W.cell? ⟨g, j * 8 + 7, none⟩ = some y2 ∧
  InBl W x1 A.known ∧ InI W x2 A.words ∧ InBl W y1 B.known ∧ InI W y2 B.words ∧ A.known.length ≤ 20 ∧ A.words.length ≤ 20 ∧ B.known.length ≤ 20 ∧ B.words.length ≤ 20
theorem RowAt.ext {W W' : World} {g j : Nat} (h : RowAt W g j) (he : Ext W W') : RowAt W' g j := by
  obtain ⟨A, B, x1, x2, y1, y2, c0, c1, c2, c3, c4, c5, c6, c7, i1, i2, i3, i4, r⟩ := h
  exact ⟨A, B, x1, x2, y1, y2, he.cell c0, he.cell c1, he.cell c2, he.cell c3, he.cell c4, he.cell c5, he.cell c6, he.cell c7, i1.ext he, i2.ext he, i3.ext he, i4.ext he, r⟩
theorem blk8 {w : World} {g : Nat} {a b c d e f h i : Value} {t : TypeId} (H : w.heap[g]? = some (.cells #[a, b, c, d, e, f, h, i] t (0, 0))) :
    w.cell? ⟨g, 0, none⟩ = some a ∧ w.cell? ⟨g, 1, none⟩ = some b ∧ w.cell? ⟨g, 2, none⟩ = some c ∧ w.cell? ⟨g, 3, none⟩ = some d ∧ w.cell? ⟨g, 4, none⟩ = some e ∧ w.cell? ⟨g, 5, none⟩ = some f ∧ w.cell? ⟨g, 6, none⟩ = some h ∧ w.cell? ⟨g, 7, none⟩ = some i :=
  ⟨blk_at H 0 a rfl, blk_at H 1 b rfl, blk_at H 2 c rfl, blk_at H 3 d rfl, blk_at H 4 e rfl, blk_at H 5 f rfl, blk_at H 6 h rfl, blk_at H 7 i rfl⟩

set_option maxHeartbeats 8000000 in
set_option maxRecDepth 100000 in
theorem checks_walk (u v z : Value) (a b : Dat) (kind mask : Int) (l : List Int) (w : World) (hu : DatAt w u a) (hv : DatAt w v b) (hz : InI w z l)
    (ha1 : a.known.length ≤ 9223372036854775807) (ha2 : a.words.length ≤ 9223372036854775807) (hb1 : b.known.length ≤ 9223372036854775807) (hb2 : b.words.length ≤ 9223372036854775807) (hl : l.length ≤ 9223372036854775807) :
    Calls Try.prog 3 #[u, v, .int .i64 kind, .int .i64 mask, z] w fun e w' => e = .returned (.bool true) ∧ Ext w w' := by
  have hU := hu
  have hV := hv
  obtain ⟨x, y, rfl, ⟨A1, c1, rfl, _, hr1⟩, ⟨A2, c2, rfl, _, hr2⟩⟩ := hu
  obtain ⟨x', y', rfl, ⟨A3, c3, rfl, _, hr3⟩, ⟨A4, c4, rfl, _, hr4⟩⟩ := hv
  obtain ⟨A5, c5, rfl, _, hr5⟩ := hz
  go_enter Try.func3, Try.ntmps3
  go_upto_region 1 with fail
  obtain ⟨W, hW, hB, hsz⟩ := boxes2 w a b (.slice A1 a.known.length c1) (.slice A2 a.words.length c2) (.slice A3 b.known.length c3) (.slice A4 b.words.length c4)
  rw [← hW]
  have HSZ := Lib.hid hsz
  clear hW hsz
  obtain ⟨q0, q1, q2, q3, _⟩ := blk4 hB.last
  obtain ⟨r0, r1, r2, r3, _⟩ := blk4 hB.now
  go_cut [46] (fun s wx => s = .bool (decide (20 < a.words.length ∨ 20 < b.words.length ∨ 20 < a.known.length ∨ 20 < b.known.length ∨ 8 < l.length)) ∧ W = wx)
  case first =>
    by_cases e1 : 20 < a.words.length
    · have t1 : decide ((20 : Int) < (a.words.length : Int)) = true := by simp; omega
      go_wp2_with fail
      go_meet
      exact ⟨by rw [decide_eq_true (by omega)], rfl⟩
    · have t1 : decide ((20 : Int) < (a.words.length : Int)) = false := by simp; omega
      by_cases e2 : 20 < b.words.length
      · have t2 : decide ((20 : Int) < (b.words.length : Int)) = true := by simp; omega
        go_wp2_with fail
        go_meet
        exact ⟨by rw [decide_eq_true (by omega)], rfl⟩
      · have t2 : decide ((20 : Int) < (b.words.length : Int)) = false := by simp; omega
        by_cases e3 : 20 < a.known.length
        · have t3 : decide ((20 : Int) < (a.known.length : Int)) = true := by simp; omega
          go_wp2_with fail
          go_meet
          exact ⟨by rw [decide_eq_true (by omega)], rfl⟩
        · have t3 : decide ((20 : Int) < (a.known.length : Int)) = false := by simp; omega
          by_cases e4 : 20 < b.known.length
          · have t4 : decide ((20 : Int) < (b.known.length : Int)) = true := by simp; omega
            go_wp2_with fail
            go_meet
            exact ⟨by rw [decide_eq_true (by omega)], rfl⟩
          · have t4 : decide ((20 : Int) < (b.known.length : Int)) = false := by simp; omega
            by_cases e5 : 8 < l.length
            · have t5 : decide ((8 : Int) < (l.length : Int)) = true := by simp; omega
              go_wp2_with fail
              go_meet
              exact ⟨by rw [decide_eq_true (by omega)], rfl⟩
            · have t5 : decide ((8 : Int) < (l.length : Int)) = false := by simp; omega
              go_wp2_with fail
              go_meet
              exact ⟨by rw [decide_eq_false (by omega)], rfl⟩
  case rest =>
    obtain ⟨rfl, rfl⟩ := hcut
    by_cases hbad : 20 < a.words.length ∨ 20 < b.words.length ∨ 20 < a.known.length ∨ 20 < b.known.length ∨ 8 < l.length
    · rw [decide_eq_true hbad]
      have hE := hB.ext
      clear hbad q0 q1 q2 q3 r0 r1 r2 r3 hB
      go_wp2_with fail
      refine (awake_any W).mono ?_
      rintro e w9 ⟨rfl, he9⟩
      go_wp2
      go_ret
      exact ⟨rfl, hE.trans he9⟩
    · rw [decide_eq_false hbad]
      have g1 : a.words.length ≤ 20 := by omega
      have g2 : b.words.length ≤ 20 := by omega
      have g3 : a.known.length ≤ 20 := by omega
      have g4 : b.known.length ≤ 20 := by omega
      have g5 : l.length ≤ 8 := by omega
      clear hbad q0 q1 q2 q3 r0 r1 r2 r3
      go_wp2_with fail
      refine (Mod_any kind 4 W (by omega) (by omega)).mono ?_
      rintro e w2' ⟨rfl, rfl⟩
      generalize kind % 4 = kd at *
      go_wp2_with fail
      obtain ⟨wi, hwi⟩ : ∃ wi, wi = (W.alloc (.cells #[.int .i64 kd, .int .i64 0, .slice none 0 0, .slice none 0 0] 25)).alloc (.cells #[.int .i64 kd, .int .i64 0, .slice none 0 0, .slice none 0 0] 25) := ⟨_, rfl⟩
      have hT0 : Two w wi (.int .i64 kd) W.heap.size (W.heap.size + 1) (.slice none 0 0) (.slice none 0 0) (.slice none 0 0) (.slice none 0 0) [] [] [] [] := by
        subst hwi
        have hs := hB.ext.size
        refine ⟨blk_alloc (heap_alloc_new W _) _, ?_, OwnV.nil _, OwnV.nil _, OwnV.nil _, OwnV.nil _, .inl rfl, .inl rfl, hs, by omega, by omega, (hB.ext.alloc _).alloc _⟩
        have := heap_alloc_new (W.alloc (.cells #[.int .i64 kd, .int .i64 0, .slice none 0 0, .slice none 0 0] 25)) (.cells #[.int .i64 kd, .int .i64 0, .slice none 0 0, .slice none 0 0] 25)
        simpa using this
      have hBi : Boxes3 w wi a b (.slice A1 a.known.length c1) (.slice A2 a.words.length c2) (.slice A3 b.known.length c3) (.slice A4 b.words.length c4) := by
        subst hwi
        exact (hB.grow ((Ext.refl W).alloc _)).grow ((Ext.refl _).alloc _)
      rw [← hwi]
      have hgc : w.heap.size + 2 ≤ W.heap.size := by have := HSZ.out; omega
      clear hwi hB HSZ
      generalize W.heap.size = gc at *
      obtain ⟨gd, hgd⟩ : ∃ gd, gd = gc + 1 := ⟨_, rfl⟩
      rw [← hgd] at hT0 ⊢
      have hgd' : w.heap.size + 2 ≤ gd := by omega
      clear hgd
      go_loopw [13] (fun i wr => ∃ (k : Nat) (x1 x2 y1 y2 : Value) (l1 : List Bool) (l2 : List Int) (m1 : List Bool) (m2 : List Int), k ≤ l.length ∧ i = .int .i64 (k : Int) ∧ l1.length = k ∧ l2.length = k ∧ m1.length = k ∧ m2.length = k ∧ Two w wr (.int .i64 kd) gc gd x1 x2 y1 y2 l1 l2 m1 m2 ∧ Boxes3 w wr a b (.slice A1 a.known.length c1) (.slice A2 a.words.length c2) (.slice A3 b.known.length c3) (.slice A4 b.words.length c4)) (fun i _ => l.length - (intOf i).toNat)
      case atStart => exact ⟨0, _, _, _, _, [], [], [], [], Nat.zero_le _, rfl, rfl, rfl, rfl, rfl, hT0, hBi⟩
      case round =>
        clear hT0 hBi
        obtain ⟨k, x1, x2, y1, y2, l1, l2, m1, m2, hk, rfl, e1, e2, e3, e4, hT, hB⟩ := hrel
        have E1 := Lib.hid e1
        have E2 := Lib.hid e2
        have E3 := Lib.hid e3
        have E4 := Lib.hid e4
        clear e1 e2 e3 e4
        obtain ⟨wo, rfl⟩ : ∃ wo : World, wo = wr := ⟨_, rfl⟩
        by_cases hlt : k < l.length
        · obtain ⟨b5, o5, rfl, hc5⟩ := hr5.int hlt
          have hil : (k : Int) < (l.length : Int) := by omega
          generalize l[k] = lk at *
          have s1 : l1.length ≤ 8 := by have := E1.out; omega
          have s2 : l2.length ≤ 8 := by have := E2.out; omega
          have s3 : m1.length ≤ 8 := by have := E3.out; omega
          have s4 : m2.length ≤ 8 := by have := E4.out; omega
          go_wp2_with fail
          have hcell : ∀ W, Keep2 x1.ownBlock x2.ownBlock wo.drew W → W.cell? ⟨gc, 2, none⟩ = some x1 ∧ W.cell? ⟨gc, 3, none⟩ = some x2 ∧ W.cell? ⟨b5, o5 + k, none⟩ = some (.int .i64 lk) := fun W hW => by
            obtain ⟨k1, _, k3⟩ := hT.keep hW
            obtain ⟨_, _, q2, q3, _⟩ := blk4 k1
            exact ⟨q2, q3, k3.cell hc5⟩
          have hB1 := hT.ox1.lt
          have hB2 := hT.ox2.lt
          have hbase := hT.ext.size
          refine wp_region_Y (Keep2 x1.ownBlock x2.ownBlock wo.drew) #[true, true, true, true, true, true, true, true, true, true, true, true, true, true, true, true, true, true, true, false, false, false] 19 3 (by kernel_rfl) rfl ?_
          have hS0 : Keep2 x1.ownBlock x2.ownBlock wo.drew wo.drew := Keep2.refl _ _ _
          refine wpY_v 0 (.pointer (some ⟨gc, 2, none⟩)) rfl rfl (by kernel_rfl) (by kernel_rfl) (by kernel_rfl) (fun _ _ _ _ h => h) (by kernel_rfl) rfl (by rfl) hS0 (fun W hW => by
            obtain ⟨q2, q3, q4⟩ := hcell W hW
            clear hcell
            go_simp <;> first | rfl | (rw [wrap_u64]; omega) | (rw [IntKind.wrap_i64]; omega)) ?_
          simp only [List.setIfInBounds_toArray, List.set_cons_zero, List.set_cons_succ]
          refine wpY_v 1 (x1) rfl rfl (by kernel_rfl) (by kernel_rfl) (by kernel_rfl) (fun _ _ _ _ h => h) (by kernel_rfl) rfl (by rfl) hS0 (fun W hW => by
            obtain ⟨q2, q3, q4⟩ := hcell W hW
            clear hcell
            go_simp <;> first | rfl | (rw [wrap_u64]; omega) | (rw [IntKind.wrap_i64]; omega)) ?_
          simp only [List.setIfInBounds_toArray, List.set_cons_zero, List.set_cons_succ]
          refine wpY_v 2 (.int .i64 mask) rfl rfl (by kernel_rfl) (by kernel_rfl) (by kernel_rfl) (fun _ _ _ _ h => h) (by kernel_rfl) rfl (by rfl) hS0 (fun W hW => by
            obtain ⟨q2, q3, q4⟩ := hcell W hW
            clear hcell
            go_simp <;> first | rfl | (rw [wrap_u64]; omega) | (rw [IntKind.wrap_i64]; omega)) ?_
          simp only [List.setIfInBounds_toArray, List.set_cons_zero, List.set_cons_succ]
          refine wpY_v 3 (.int .i64 (k : Int)) rfl rfl (by kernel_rfl) (by kernel_rfl) (by kernel_rfl) (fun _ _ _ _ h => h) (by kernel_rfl) rfl (by rfl) hS0 (fun W hW => by
            obtain ⟨q2, q3, q4⟩ := hcell W hW
            clear hcell
            go_simp <;> first | rfl | (rw [wrap_u64]; omega) | (rw [IntKind.wrap_i64]; omega)) ?_
          simp only [List.setIfInBounds_toArray, List.set_cons_zero, List.set_cons_succ]
          refine wpY_v 4 (.int .u64 (k : Int)) rfl rfl (by kernel_rfl) (by kernel_rfl) (by kernel_rfl) (fun _ _ _ _ h => h) (by kernel_rfl) rfl (by rfl) hS0 (fun W hW => by
            obtain ⟨q2, q3, q4⟩ := hcell W hW
            clear hcell
            go_simp <;> first | rfl | (rw [wrap_u64]; omega) | (rw [IntKind.wrap_i64]; omega)) ?_
          simp only [List.setIfInBounds_toArray, List.set_cons_zero, List.set_cons_succ]
          refine wpY_v 5 (.int .i64 (mask / 2 ^ k)) rfl rfl (by kernel_rfl) (by kernel_rfl) (by kernel_rfl) (fun _ _ _ _ h => h) (by kernel_rfl) rfl (by rfl) hS0 (fun W hW => by
            obtain ⟨q2, q3, q4⟩ := hcell W hW
            clear hcell
            go_simp <;> first | rfl | (rw [wrap_u64]; omega) | (rw [IntKind.wrap_i64]; omega)) ?_
          simp only [List.setIfInBounds_toArray, List.set_cons_zero, List.set_cons_succ]
          refine wpY_v 6 (.int .i64 (bits .and .i64 (mask / 2 ^ k) 1)) rfl rfl (by kernel_rfl) (by kernel_rfl) (by kernel_rfl) (fun _ _ _ _ h => h) (by kernel_rfl) rfl (by rfl) hS0 (fun W hW => by
            obtain ⟨q2, q3, q4⟩ := hcell W hW
            clear hcell
            go_simp <;> first | rfl | (rw [wrap_u64]; omega) | (rw [IntKind.wrap_i64]; omega)) ?_
          simp only [List.setIfInBounds_toArray, List.set_cons_zero, List.set_cons_succ]
          refine wpY_v 7 (.bool (kbW mask k)) rfl rfl (by kernel_rfl) (by kernel_rfl) (by kernel_rfl) (fun _ _ _ _ h => h) (by kernel_rfl) rfl (by rfl) hS0 (fun W hW => by
            obtain ⟨q2, q3, q4⟩ := hcell W hW
            clear hcell
            go_simp <;> first | rfl | (rw [wrap_u64]; omega) | (rw [IntKind.wrap_i64]; omega)) ?_
          simp only [List.setIfInBounds_toArray, List.set_cons_zero, List.set_cons_succ]
          refine wpY_v 10 (.pointer (some ⟨gc, 3, none⟩)) rfl rfl (by kernel_rfl) (by kernel_rfl) (by kernel_rfl) (fun _ _ _ _ h => h) (by kernel_rfl) rfl (by rfl) hS0 (fun W hW => by
            obtain ⟨q2, q3, q4⟩ := hcell W hW
            clear hcell
            go_simp <;> first | rfl | (rw [wrap_u64]; omega) | (rw [IntKind.wrap_i64]; omega)) ?_
          simp only [List.setIfInBounds_toArray, List.set_cons_zero, List.set_cons_succ]
          refine wpY_v 11 (x2) rfl rfl (by kernel_rfl) (by kernel_rfl) (by kernel_rfl) (fun _ _ _ _ h => h) (by kernel_rfl) rfl (by rfl) hS0 (fun W hW => by
            obtain ⟨q2, q3, q4⟩ := hcell W hW
            clear hcell
            go_simp <;> first | rfl | (rw [wrap_u64]; omega) | (rw [IntKind.wrap_i64]; omega)) ?_
          simp only [List.setIfInBounds_toArray, List.set_cons_zero, List.set_cons_succ]
          refine wpY_v 12 (.slice (some ⟨b5, o5, none⟩) l.length c5) rfl rfl (by kernel_rfl) (by kernel_rfl) (by kernel_rfl) (fun _ _ _ _ h => h) (by kernel_rfl) rfl (by rfl) hS0 (fun W hW => by
            obtain ⟨q2, q3, q4⟩ := hcell W hW
            clear hcell
            go_simp <;> first | rfl | (rw [wrap_u64]; omega) | (rw [IntKind.wrap_i64]; omega)) ?_
          simp only [List.setIfInBounds_toArray, List.set_cons_zero, List.set_cons_succ]
          refine wpY_v 13 (.int .i64 (k : Int)) rfl rfl (by kernel_rfl) (by kernel_rfl) (by kernel_rfl) (fun _ _ _ _ h => h) (by kernel_rfl) rfl (by rfl) hS0 (fun W hW => by
            obtain ⟨q2, q3, q4⟩ := hcell W hW
            clear hcell
            go_simp <;> first | rfl | (rw [wrap_u64]; omega) | (rw [IntKind.wrap_i64]; omega)) ?_
          simp only [List.setIfInBounds_toArray, List.set_cons_zero, List.set_cons_succ]
          refine wpY_v 14 (.pointer (some ⟨b5, o5 + k, none⟩)) rfl rfl (by kernel_rfl) (by kernel_rfl) (by kernel_rfl) (fun _ _ _ _ h => h) (by kernel_rfl) rfl (by rfl) hS0 (fun W hW => by
            obtain ⟨q2, q3, q4⟩ := hcell W hW
            clear hcell
            go_simp <;> first | rfl | (rw [wrap_u64]; omega) | (rw [IntKind.wrap_i64]; omega)) ?_
          simp only [List.setIfInBounds_toArray, List.set_cons_zero, List.set_cons_succ]
          refine wpY_v 15 (.int .i64 lk) rfl rfl (by kernel_rfl) (by kernel_rfl) (by kernel_rfl) (fun _ _ _ _ h => h) (by kernel_rfl) rfl (by rfl) hS0 (fun W hW => by
            obtain ⟨q2, q3, q4⟩ := hcell W hW
            clear hcell
            go_simp <;> first | rfl | (rw [wrap_u64]; omega) | (rw [IntKind.wrap_i64]; omega)) ?_
          simp only [List.setIfInBounds_toArray, List.set_cons_zero, List.set_cons_succ]
          have ob1 : OwnV Value.bool 4 w.heap.size wo.drew x1 (l1) := hT.ox1
          have ob2 : OwnV iv 3 w.heap.size wo.drew x2 (l2) := hT.ox2
          refine wpY_inv _ [8, 9, 16, 17, 18] (fun i => match i with | 8 => 66 | 9 => 67 | 16 => 74 | 17 => 75 | _ => 76) (fun i v W => match i with | 8 => OwnV Value.bool 4 w.heap.size W v [(kbW mask k)] ∧ (∃ g, v.ownBlock = some g ∧ wo.heap.size ≤ g) | 9 => OwnV Value.bool 4 w.heap.size W v (l1 ++ [(kbW mask k)]) ∧ (v.ownBlock = x1.ownBlock ∨ ∃ g, v.ownBlock = some g ∧ wo.heap.size ≤ g) | 16 => OwnV iv 3 w.heap.size W v [lk] ∧ (∃ g, v.ownBlock = some g ∧ wo.heap.size ≤ g) | 17 => OwnV iv 3 w.heap.size W v (l2 ++ [lk]) ∧ (v.ownBlock = x2.ownBlock ∨ ∃ g, v.ownBlock = some g ∧ wo.heap.size ≤ g) | _ => v = .pointer (some ⟨gc, 2, none⟩)) (fun i W => match i with | 9 => OwnV Value.bool 4 w.heap.size W x1 (l1) | 17 => OwnV iv 3 w.heap.size W x2 (l2) | _ => True) 160 (by kernel_rfl) rfl (by decide) rfl ?_ hS0 ?_ ?_
          · intro i hi a W hsN hS hH ha hw
            simp only [List.mem_cons, List.not_mem_nil, or_false] at hi
            have hsz : wo.heap.size ≤ W.heap.size := hS.size
            rcases hi with rfl | rfl | rfl | rfl | rfl
            · refine op_make (v := .slice (some ⟨W.heap.size, 0, none⟩) 1 1) (W' := W.alloc (.cells #[Value.bool (kbW mask k)] 4)) rfl rfl (by
                have e0 : a.tmps[65]?.getD undef = .bool (kbW mask k) := (ha 65 rfl).2
                go_simp
                ) ?_
              refine ⟨_, rfl, .inl (by decide), hS.ext ((Ext.refl W).alloc _), ⟨(OwnV_new (f := Value.bool) W (kbW mask k) 4).low (by omega), _, rfl, hsz⟩, ?_⟩
              · intro j hj hne
                simp only [List.mem_cons, List.not_mem_nil, or_false] at hj
                rcases hj with rfl | rfl | rfl | rfl | rfl
                · exact ⟨fun u hu => ⟨hu.1.ext ((Ext.refl W).alloc _), hu.2⟩, fun _ => trivial⟩
                · exact ⟨fun u hu => ⟨hu.1.ext ((Ext.refl W).alloc _), hu.2⟩, fun hu => hu.ext ((Ext.refl W).alloc _)⟩
                · exact ⟨fun u hu => ⟨hu.1.ext ((Ext.refl W).alloc _), hu.2⟩, fun _ => trivial⟩
                · exact ⟨fun u hu => ⟨hu.1.ext ((Ext.refl W).alloc _), hu.2⟩, fun hu => hu.ext ((Ext.refl W).alloc _)⟩
                · exact ⟨fun u hu => hu, fun _ => trivial⟩
            · have g1 := hw 8 (by decide) (by kernel_rfl)
              refine op_append elem_bool (fun _ => rfl) rfl rfl (s := .tmp 59) (x := .tmp 66) rfl (show a.eval (.tmp 59) = x1 from (ha 59 rfl).1) rfl (Nat.le_trans hbase hsz) (by first | (simp; omega) | (simp [knW_len]; omega)) (by omega) hH g1.1.inV fun v' W' o1 gr => ?_
              refine ⟨_, rfl, .inl (by decide), hS.one gr.grown, ⟨o1, gr.lies.imp id fun ⟨q, q1, q2⟩ => ⟨q, q1, Nat.le_trans hsz q2⟩⟩, ?_⟩
              intro j hj hne
              simp only [List.mem_cons, List.not_mem_nil, or_false] at hj
              have far : ∀ u : Value, (∃ g, u.ownBlock = some g ∧ wo.heap.size ≤ g) → u.ownBlock ≠ x1.ownBlock := fun u ⟨q, q1, q2⟩ q3 => by
                have := hB1 q (q3.symm.trans q1)
                omega
              rcases hj with rfl | rfl | rfl | rfl | rfl
              · exact ⟨fun u hu => ⟨hu.1.kept gr.grown (.inr (far u hu.2)), hu.2⟩, fun _ => trivial⟩
              · exact absurd rfl hne
              · exact ⟨fun u hu => ⟨hu.1.kept gr.grown (hu.1.ne hH (by decide)), hu.2⟩, fun _ => trivial⟩
              · exact ⟨fun u hu => ⟨hu.1.kept gr.grown (hu.1.ne hH (by decide)), hu.2⟩, fun hu => hu.kept gr.grown (hu.ne hH (by decide))⟩
              · exact ⟨fun u hu => hu, fun _ => trivial⟩
            · refine op_make (v := .slice (some ⟨W.heap.size, 0, none⟩) 1 1) (W' := W.alloc (.cells #[iv lk] 3)) rfl rfl (by
                have e0 : a.tmps[73]?.getD undef = .int .i64 lk := (ha 73 rfl).2
                go_simp; rfl
                ) ?_
              refine ⟨_, rfl, .inl (by decide), hS.ext ((Ext.refl W).alloc _), ⟨(OwnV_new (f := iv) W lk 3).low (by omega), _, rfl, hsz⟩, ?_⟩
              · intro j hj hne
                simp only [List.mem_cons, List.not_mem_nil, or_false] at hj
                rcases hj with rfl | rfl | rfl | rfl | rfl
                · exact ⟨fun u hu => ⟨hu.1.ext ((Ext.refl W).alloc _), hu.2⟩, fun _ => trivial⟩
                · exact ⟨fun u hu => ⟨hu.1.ext ((Ext.refl W).alloc _), hu.2⟩, fun hu => hu.ext ((Ext.refl W).alloc _)⟩
                · exact ⟨fun u hu => ⟨hu.1.ext ((Ext.refl W).alloc _), hu.2⟩, fun _ => trivial⟩
                · exact ⟨fun u hu => ⟨hu.1.ext ((Ext.refl W).alloc _), hu.2⟩, fun hu => hu.ext ((Ext.refl W).alloc _)⟩
                · exact ⟨fun u hu => hu, fun _ => trivial⟩
            · have g1 := hw 16 (by decide) (by kernel_rfl)
              refine op_append elem_int (fun _ => rfl) rfl rfl (s := .tmp 69) (x := .tmp 74) rfl (show a.eval (.tmp 69) = x2 from (ha 69 rfl).1) rfl (Nat.le_trans hbase hsz) (by first | (simp; omega) | (simp [knW_len]; omega)) (by omega) hH g1.1.inV fun v' W' o1 gr => ?_
              refine ⟨_, rfl, .inl (by decide), hS.two gr.grown, ⟨o1, gr.lies.imp id fun ⟨q, q1, q2⟩ => ⟨q, q1, Nat.le_trans hsz q2⟩⟩, ?_⟩
              intro j hj hne
              simp only [List.mem_cons, List.not_mem_nil, or_false] at hj
              have far : ∀ u : Value, (∃ g, u.ownBlock = some g ∧ wo.heap.size ≤ g) → u.ownBlock ≠ x2.ownBlock := fun u ⟨q, q1, q2⟩ q3 => by
                have := hB2 q (q3.symm.trans q1)
                omega
              rcases hj with rfl | rfl | rfl | rfl | rfl
              · exact ⟨fun u hu => ⟨hu.1.kept gr.grown (hu.1.ne hH (by decide)), hu.2⟩, fun _ => trivial⟩
              · exact ⟨fun u hu => ⟨hu.1.kept gr.grown (hu.1.ne hH (by decide)), hu.2⟩, fun hu => hu.kept gr.grown (hu.ne hH (by decide))⟩
              · exact ⟨fun u hu => ⟨hu.1.kept gr.grown (.inr (far u hu.2)), hu.2⟩, fun _ => trivial⟩
              · exact absurd rfl hne
              · exact ⟨fun u hu => hu, fun _ => trivial⟩
            · refine op_make (v := .pointer (some ⟨gc, 2, none⟩)) (W' := W) rfl rfl (by
                have e0 : a.tmps[11]?.getD undef = .pointer (some ⟨gc, 0, none⟩) := (ha 11 rfl).2
                go_simp) ?_
              refine ⟨_, rfl, .inl (by decide), hS, rfl, fun j hj hne => ⟨fun u hu => hu, fun hu => hu⟩⟩
          · intro i hi
            simp only [List.mem_cons, List.not_mem_nil, or_false] at hi
            rcases hi with rfl | rfl | rfl | rfl | rfl
            · trivial
            · exact ob1
            · trivial
            · exact ob2
            · trivial
          intro xs W hS hG
          have gB1 := hG 8 (by decide)
          have gA1 := hG 9 (by decide)
          have gB2 := hG 16 (by decide)
          have gA2 := hG 17 (by decide)
          have gV := hG 18 (by decide)
          simp only at gB1 gA1 gB2 gA2 gV
          simp only [putL, List.map_cons, List.map_nil, List.foldl_cons, List.foldl_nil, Act.put]
          simp only [List.setIfInBounds_toArray, List.set_cons_zero, List.set_cons_succ]
          generalize xs 8 = z1 at *
          generalize xs 9 = v1 at *
          generalize xs 16 = z2 at *
          generalize xs 17 = v2 at *
          generalize xs 18 = zp at *
          subst gV
          refine tail_seq 19 rfl (by kernel_rfl) ?_
          simp only [List.drop_succ_cons, List.drop_zero]
          obtain ⟨V1, cv1, rfl, _, _⟩ := gA1.1.inV
          obtain ⟨V2, cv2, rfl, _, _⟩ := gA2.1.inV
          have hT1 := hT.adv hS gA1 gA2
          have hB1' := ((hB.keep2 hT.ox1 hT.ox2 hS).set (p := ⟨gc, 2, none⟩) (by assumption) (.slice V1 (l1 ++ [kbW mask k]).length cv1)).set (p := ⟨gc, 3, none⟩) (by assumption) (.slice V2 (l2 ++ [lk]).length cv2)
          obtain ⟨hkx, _, _⟩ := hT.keep hS
          obtain ⟨q0, q1, q2, q3, f0, f1, f2, f3⟩ := blk4 hkx
          clear hcell hB1 hB2 hbase hS0 ob1 ob2 hG gA1 gA2 gB1 gB2 hS hT hB
          generalize hn1 : (l1 ++ [kbW mask k]).length = n1 at *
          generalize hn2 : (l2 ++ [lk]).length = n2 at *
          clear hn1 hn2
          go_wp2_with fail
          refine NoPanic.normal ?_
          clear q0 q1 q2 q3 f0 f1 f2 f3 hkx
          generalize (W.setCell ⟨gc, 2, none⟩ (.slice V1 n1 cv1)).setCell ⟨gc, 3, none⟩ (.slice V2 n2 cv2) = w8 at *
          go_wp2_with fail
          have hT := hT1.swap
          have hB := hB1'
          clear hT1 hB1'
          have hcell : ∀ W, Keep2 y1.ownBlock y2.ownBlock w8.drew W → W.cell? ⟨gd, 2, none⟩ = some y1 ∧ W.cell? ⟨gd, 3, none⟩ = some y2 ∧ W.cell? ⟨b5, o5 + k, none⟩ = some (.int .i64 lk) := fun W hW => by
            obtain ⟨k1, _, k3⟩ := hT.keep hW
            obtain ⟨_, _, q2, q3, _⟩ := blk4 k1
            exact ⟨q2, q3, k3.cell hc5⟩
          have hB1 := hT.ox1.lt
          have hB2 := hT.ox2.lt
          have hbase := hT.ext.size
          refine wp_region_Y (Keep2 y1.ownBlock y2.ownBlock w8.drew) #[true, true, true, true, true, true, true, true, true, true, true, true, true, true, true, true, true, true, true, true, true, true, true, true, true, true, true, false, false, false] 27 3 (by kernel_rfl) rfl ?_
          have hS0 : Keep2 y1.ownBlock y2.ownBlock w8.drew w8.drew := Keep2.refl _ _ _
          refine wpY_v 0 (.pointer (some ⟨gd, 2, none⟩)) rfl rfl (by kernel_rfl) (by kernel_rfl) (by kernel_rfl) (fun _ _ _ _ h => h) (by kernel_rfl) rfl (by rfl) hS0 (fun W hW => by
            obtain ⟨q2, q3, q4⟩ := hcell W hW
            clear hcell
            go_simp <;> first | rfl | (rw [wrap_u64]; omega) | (rw [IntKind.wrap_i64]; omega)) ?_
          simp only [List.setIfInBounds_toArray, List.set_cons_zero, List.set_cons_succ]
          refine wpY_v 1 (y1) rfl rfl (by kernel_rfl) (by kernel_rfl) (by kernel_rfl) (fun _ _ _ _ h => h) (by kernel_rfl) rfl (by rfl) hS0 (fun W hW => by
            obtain ⟨q2, q3, q4⟩ := hcell W hW
            clear hcell
            go_simp <;> first | rfl | (rw [wrap_u64]; omega) | (rw [IntKind.wrap_i64]; omega)) ?_
          simp only [List.setIfInBounds_toArray, List.set_cons_zero, List.set_cons_succ]
          refine wpY_v 2 (.int .i64 mask) rfl rfl (by kernel_rfl) (by kernel_rfl) (by kernel_rfl) (fun _ _ _ _ h => h) (by kernel_rfl) rfl (by rfl) hS0 (fun W hW => by
            obtain ⟨q2, q3, q4⟩ := hcell W hW
            clear hcell
            go_simp <;> first | rfl | (rw [wrap_u64]; omega) | (rw [IntKind.wrap_i64]; omega)) ?_
          simp only [List.setIfInBounds_toArray, List.set_cons_zero, List.set_cons_succ]
          refine wpY_v 3 (.int .i64 (k : Int)) rfl rfl (by kernel_rfl) (by kernel_rfl) (by kernel_rfl) (fun _ _ _ _ h => h) (by kernel_rfl) rfl (by rfl) hS0 (fun W hW => by
            obtain ⟨q2, q3, q4⟩ := hcell W hW
            clear hcell
            go_simp <;> first | rfl | (rw [wrap_u64]; omega) | (rw [IntKind.wrap_i64]; omega)) ?_
          simp only [List.setIfInBounds_toArray, List.set_cons_zero, List.set_cons_succ]
          refine wpY_v 4 (.int .i64 ((k : Int) + 8)) rfl rfl (by kernel_rfl) (by kernel_rfl) (by kernel_rfl) (fun _ _ _ _ h => h) (by kernel_rfl) rfl (by rfl) hS0 (fun W hW => by
            obtain ⟨q2, q3, q4⟩ := hcell W hW
            clear hcell
            go_simp <;> first | rfl | (rw [wrap_u64]; omega) | (rw [IntKind.wrap_i64]; omega)) ?_
          simp only [List.setIfInBounds_toArray, List.set_cons_zero, List.set_cons_succ]
          refine wpY_v 5 (.int .u64 ((k : Int) + 8)) rfl rfl (by kernel_rfl) (by kernel_rfl) (by kernel_rfl) (fun _ _ _ _ h => h) (by kernel_rfl) rfl (by rfl) hS0 (fun W hW => by
            obtain ⟨q2, q3, q4⟩ := hcell W hW
            clear hcell
            go_simp <;> first | rfl | (rw [wrap_u64]; omega) | (rw [IntKind.wrap_i64]; omega)) ?_
          simp only [List.setIfInBounds_toArray, List.set_cons_zero, List.set_cons_succ]
          refine wpY_v 6 (.int .i64 (mask / 2 ^ (k + 8))) rfl rfl (by kernel_rfl) (by kernel_rfl) (by kernel_rfl) (fun _ _ _ _ h => h) (by kernel_rfl) rfl (by rfl) hS0 (fun W hW => by
            obtain ⟨q2, q3, q4⟩ := hcell W hW
            clear hcell
            go_simp <;> first | rfl | (rw [wrap_u64]; omega) | (rw [IntKind.wrap_i64]; omega)) ?_
          simp only [List.setIfInBounds_toArray, List.set_cons_zero, List.set_cons_succ]
          refine wpY_v 7 (.int .i64 (bits .and .i64 (mask / 2 ^ (k + 8)) 1)) rfl rfl (by kernel_rfl) (by kernel_rfl) (by kernel_rfl) (fun _ _ _ _ h => h) (by kernel_rfl) rfl (by rfl) hS0 (fun W hW => by
            obtain ⟨q2, q3, q4⟩ := hcell W hW
            clear hcell
            go_simp <;> first | rfl | (rw [wrap_u64]; omega) | (rw [IntKind.wrap_i64]; omega)) ?_
          simp only [List.setIfInBounds_toArray, List.set_cons_zero, List.set_cons_succ]
          refine wpY_v 8 (.bool (kbW mask (k + 8))) rfl rfl (by kernel_rfl) (by kernel_rfl) (by kernel_rfl) (fun _ _ _ _ h => h) (by kernel_rfl) rfl (by rfl) hS0 (fun W hW => by
            obtain ⟨q2, q3, q4⟩ := hcell W hW
            clear hcell
            go_simp <;> first | rfl | (rw [wrap_u64]; omega) | (rw [IntKind.wrap_i64]; omega)) ?_
          simp only [List.setIfInBounds_toArray, List.set_cons_zero, List.set_cons_succ]
          refine wpY_v 11 (.pointer (some ⟨gd, 3, none⟩)) rfl rfl (by kernel_rfl) (by kernel_rfl) (by kernel_rfl) (fun _ _ _ _ h => h) (by kernel_rfl) rfl (by rfl) hS0 (fun W hW => by
            obtain ⟨q2, q3, q4⟩ := hcell W hW
            clear hcell
            go_simp <;> first | rfl | (rw [wrap_u64]; omega) | (rw [IntKind.wrap_i64]; omega)) ?_
          simp only [List.setIfInBounds_toArray, List.set_cons_zero, List.set_cons_succ]
          refine wpY_v 12 (y2) rfl rfl (by kernel_rfl) (by kernel_rfl) (by kernel_rfl) (fun _ _ _ _ h => h) (by kernel_rfl) rfl (by rfl) hS0 (fun W hW => by
            obtain ⟨q2, q3, q4⟩ := hcell W hW
            clear hcell
            go_simp <;> first | rfl | (rw [wrap_u64]; omega) | (rw [IntKind.wrap_i64]; omega)) ?_
          simp only [List.setIfInBounds_toArray, List.set_cons_zero, List.set_cons_succ]
          refine wpY_v 13 (.slice (some ⟨b5, o5, none⟩) l.length c5) rfl rfl (by kernel_rfl) (by kernel_rfl) (by kernel_rfl) (fun _ _ _ _ h => h) (by kernel_rfl) rfl (by rfl) hS0 (fun W hW => by
            obtain ⟨q2, q3, q4⟩ := hcell W hW
            clear hcell
            go_simp <;> first | rfl | (rw [wrap_u64]; omega) | (rw [IntKind.wrap_i64]; omega)) ?_
          simp only [List.setIfInBounds_toArray, List.set_cons_zero, List.set_cons_succ]
          refine wpY_v 14 (.int .i64 (k : Int)) rfl rfl (by kernel_rfl) (by kernel_rfl) (by kernel_rfl) (fun _ _ _ _ h => h) (by kernel_rfl) rfl (by rfl) hS0 (fun W hW => by
            obtain ⟨q2, q3, q4⟩ := hcell W hW
            clear hcell
            go_simp <;> first | rfl | (rw [wrap_u64]; omega) | (rw [IntKind.wrap_i64]; omega)) ?_
          simp only [List.setIfInBounds_toArray, List.set_cons_zero, List.set_cons_succ]
          refine wpY_v 15 (.pointer (some ⟨b5, o5 + k, none⟩)) rfl rfl (by kernel_rfl) (by kernel_rfl) (by kernel_rfl) (fun _ _ _ _ h => h) (by kernel_rfl) rfl (by rfl) hS0 (fun W hW => by
            obtain ⟨q2, q3, q4⟩ := hcell W hW
            clear hcell
            go_simp <;> first | rfl | (rw [wrap_u64]; omega) | (rw [IntKind.wrap_i64]; omega)) ?_
          simp only [List.setIfInBounds_toArray, List.set_cons_zero, List.set_cons_succ]
          refine wpY_v 16 (.int .i64 lk) rfl rfl (by kernel_rfl) (by kernel_rfl) (by kernel_rfl) (fun _ _ _ _ h => h) (by kernel_rfl) rfl (by rfl) hS0 (fun W hW => by
            obtain ⟨q2, q3, q4⟩ := hcell W hW
            clear hcell
            go_simp <;> first | rfl | (rw [wrap_u64]; omega) | (rw [IntKind.wrap_i64]; omega)) ?_
          simp only [List.setIfInBounds_toArray, List.set_cons_zero, List.set_cons_succ]
          refine wpY_v 17 (.int .i64 mask) rfl rfl (by kernel_rfl) (by kernel_rfl) (by kernel_rfl) (fun _ _ _ _ h => h) (by kernel_rfl) rfl (by rfl) hS0 (fun W hW => by
            obtain ⟨q2, q3, q4⟩ := hcell W hW
            clear hcell
            go_simp <;> first | rfl | (rw [wrap_u64]; omega) | (rw [IntKind.wrap_i64]; omega)) ?_
          simp only [List.setIfInBounds_toArray, List.set_cons_zero, List.set_cons_succ]
          refine wpY_v 18 (.int .i64 (k : Int)) rfl rfl (by kernel_rfl) (by kernel_rfl) (by kernel_rfl) (fun _ _ _ _ h => h) (by kernel_rfl) rfl (by rfl) hS0 (fun W hW => by
            obtain ⟨q2, q3, q4⟩ := hcell W hW
            clear hcell
            go_simp <;> first | rfl | (rw [wrap_u64]; omega) | (rw [IntKind.wrap_i64]; omega)) ?_
          simp only [List.setIfInBounds_toArray, List.set_cons_zero, List.set_cons_succ]
          refine wpY_v 19 (.int .i64 ((k : Int) + 16)) rfl rfl (by kernel_rfl) (by kernel_rfl) (by kernel_rfl) (fun _ _ _ _ h => h) (by kernel_rfl) rfl (by rfl) hS0 (fun W hW => by
            obtain ⟨q2, q3, q4⟩ := hcell W hW
            clear hcell
            go_simp <;> first | rfl | (rw [wrap_u64]; omega) | (rw [IntKind.wrap_i64]; omega)) ?_
          simp only [List.setIfInBounds_toArray, List.set_cons_zero, List.set_cons_succ]
          refine wpY_v 20 (.int .u64 ((k : Int) + 16)) rfl rfl (by kernel_rfl) (by kernel_rfl) (by kernel_rfl) (fun _ _ _ _ h => h) (by kernel_rfl) rfl (by rfl) hS0 (fun W hW => by
            obtain ⟨q2, q3, q4⟩ := hcell W hW
            clear hcell
            go_simp <;> first | rfl | (rw [wrap_u64]; omega) | (rw [IntKind.wrap_i64]; omega)) ?_
          simp only [List.setIfInBounds_toArray, List.set_cons_zero, List.set_cons_succ]
          refine wpY_v 21 (.int .i64 (mask / 2 ^ (k + 16))) rfl rfl (by kernel_rfl) (by kernel_rfl) (by kernel_rfl) (fun _ _ _ _ h => h) (by kernel_rfl) rfl (by rfl) hS0 (fun W hW => by
            obtain ⟨q2, q3, q4⟩ := hcell W hW
            clear hcell
            go_simp <;> first | rfl | (rw [wrap_u64]; omega) | (rw [IntKind.wrap_i64]; omega)) ?_
          simp only [List.setIfInBounds_toArray, List.set_cons_zero, List.set_cons_succ]
          refine wpY_v 22 (.int .i64 (bits .and .i64 (mask / 2 ^ (k + 16)) 1)) rfl rfl (by kernel_rfl) (by kernel_rfl) (by kernel_rfl) (fun _ _ _ _ h => h) (by kernel_rfl) rfl (by rfl) hS0 (fun W hW => by
            obtain ⟨q2, q3, q4⟩ := hcell W hW
            clear hcell
            go_simp <;> first | rfl | (rw [wrap_u64]; omega) | (rw [IntKind.wrap_i64]; omega)) ?_
          simp only [List.setIfInBounds_toArray, List.set_cons_zero, List.set_cons_succ]
          refine wpY_v 23 (.int .i64 (IntKind.i64.wrap (lk + bits .and .i64 (mask / 2 ^ (k + 16)) 1))) rfl rfl (by kernel_rfl) (by kernel_rfl) (by kernel_rfl) (fun _ _ _ _ h => h) (by kernel_rfl) rfl (by rfl) hS0 (fun W hW => by
            obtain ⟨q2, q3, q4⟩ := hcell W hW
            clear hcell
            go_simp <;> first | rfl | (rw [wrap_u64]; omega) | (rw [IntKind.wrap_i64]; omega)) ?_
          simp only [List.setIfInBounds_toArray, List.set_cons_zero, List.set_cons_succ]
          have ob1 : OwnV Value.bool 4 w.heap.size w8.drew y1 (m1) := hT.ox1
          have ob2 : OwnV iv 3 w.heap.size w8.drew y2 (m2) := hT.ox2
          refine wpY_inv _ [9, 10, 24, 25, 26] (fun i => match i with | 9 => 87 | 10 => 88 | 24 => 102 | 25 => 103 | _ => 104) (fun i v W => match i with | 9 => OwnV Value.bool 4 w.heap.size W v [(kbW mask (k + 8))] ∧ (∃ g, v.ownBlock = some g ∧ w8.heap.size ≤ g) | 10 => OwnV Value.bool 4 w.heap.size W v (m1 ++ [(kbW mask (k + 8))]) ∧ (v.ownBlock = y1.ownBlock ∨ ∃ g, v.ownBlock = some g ∧ w8.heap.size ≤ g) | 24 => OwnV iv 3 w.heap.size W v [(IntKind.i64.wrap (lk + bits .and .i64 (mask / 2 ^ (k + 16)) 1))] ∧ (∃ g, v.ownBlock = some g ∧ w8.heap.size ≤ g) | 25 => OwnV iv 3 w.heap.size W v (m2 ++ [(IntKind.i64.wrap (lk + bits .and .i64 (mask / 2 ^ (k + 16)) 1))]) ∧ (v.ownBlock = y2.ownBlock ∨ ∃ g, v.ownBlock = some g ∧ w8.heap.size ≤ g) | _ => v = .pointer (some ⟨gd, 2, none⟩)) (fun i W => match i with | 10 => OwnV Value.bool 4 w.heap.size W y1 (m1) | 25 => OwnV iv 3 w.heap.size W y2 (m2) | _ => True) 160 (by kernel_rfl) rfl (by decide) rfl ?_ hS0 ?_ ?_
          · intro i hi a W hsN hS hH ha hw
            simp only [List.mem_cons, List.not_mem_nil, or_false] at hi
            have hsz : w8.heap.size ≤ W.heap.size := hS.size
            rcases hi with rfl | rfl | rfl | rfl | rfl
            · refine op_make (v := .slice (some ⟨W.heap.size, 0, none⟩) 1 1) (W' := W.alloc (.cells #[Value.bool (kbW mask (k + 8))] 4)) rfl rfl (by
                have e0 : a.tmps[86]?.getD undef = .bool (kbW mask (k + 8)) := (ha 86 rfl).2
                go_simp
                ) ?_
              refine ⟨_, rfl, .inl (by decide), hS.ext ((Ext.refl W).alloc _), ⟨(OwnV_new (f := Value.bool) W (kbW mask (k + 8)) 4).low (by omega), _, rfl, hsz⟩, ?_⟩
              · intro j hj hne
                simp only [List.mem_cons, List.not_mem_nil, or_false] at hj
                rcases hj with rfl | rfl | rfl | rfl | rfl
                · exact ⟨fun u hu => ⟨hu.1.ext ((Ext.refl W).alloc _), hu.2⟩, fun _ => trivial⟩
                · exact ⟨fun u hu => ⟨hu.1.ext ((Ext.refl W).alloc _), hu.2⟩, fun hu => hu.ext ((Ext.refl W).alloc _)⟩
                · exact ⟨fun u hu => ⟨hu.1.ext ((Ext.refl W).alloc _), hu.2⟩, fun _ => trivial⟩
                · exact ⟨fun u hu => ⟨hu.1.ext ((Ext.refl W).alloc _), hu.2⟩, fun hu => hu.ext ((Ext.refl W).alloc _)⟩
                · exact ⟨fun u hu => hu, fun _ => trivial⟩
            · have g1 := hw 9 (by decide) (by kernel_rfl)
              refine op_append elem_bool (fun _ => rfl) rfl rfl (s := .tmp 79) (x := .tmp 87) rfl (show a.eval (.tmp 79) = y1 from (ha 79 rfl).1) rfl (Nat.le_trans hbase hsz) (by first | (simp; omega) | (simp [knW_len]; omega)) (by omega) hH g1.1.inV fun v' W' o1 gr => ?_
              refine ⟨_, rfl, .inl (by decide), hS.one gr.grown, ⟨o1, gr.lies.imp id fun ⟨q, q1, q2⟩ => ⟨q, q1, Nat.le_trans hsz q2⟩⟩, ?_⟩
              intro j hj hne
              simp only [List.mem_cons, List.not_mem_nil, or_false] at hj
              have far : ∀ u : Value, (∃ g, u.ownBlock = some g ∧ w8.heap.size ≤ g) → u.ownBlock ≠ y1.ownBlock := fun u ⟨q, q1, q2⟩ q3 => by
                have := hB1 q (q3.symm.trans q1)
                omega
              rcases hj with rfl | rfl | rfl | rfl | rfl
              · exact ⟨fun u hu => ⟨hu.1.kept gr.grown (.inr (far u hu.2)), hu.2⟩, fun _ => trivial⟩
              · exact absurd rfl hne
              · exact ⟨fun u hu => ⟨hu.1.kept gr.grown (hu.1.ne hH (by decide)), hu.2⟩, fun _ => trivial⟩
              · exact ⟨fun u hu => ⟨hu.1.kept gr.grown (hu.1.ne hH (by decide)), hu.2⟩, fun hu => hu.kept gr.grown (hu.ne hH (by decide))⟩
              · exact ⟨fun u hu => hu, fun _ => trivial⟩
            · refine op_make (v := .slice (some ⟨W.heap.size, 0, none⟩) 1 1) (W' := W.alloc (.cells #[iv (IntKind.i64.wrap (lk + bits .and .i64 (mask / 2 ^ (k + 16)) 1))] 3)) rfl rfl (by
                have e0 : a.tmps[101]?.getD undef = .int .i64 (IntKind.i64.wrap (lk + bits .and .i64 (mask / 2 ^ (k + 16)) 1)) := (ha 101 rfl).2
                go_simp; rfl
                ) ?_
              refine ⟨_, rfl, .inl (by decide), hS.ext ((Ext.refl W).alloc _), ⟨(OwnV_new (f := iv) W (IntKind.i64.wrap (lk + bits .and .i64 (mask / 2 ^ (k + 16)) 1)) 3).low (by omega), _, rfl, hsz⟩, ?_⟩
              · intro j hj hne
                simp only [List.mem_cons, List.not_mem_nil, or_false] at hj
                rcases hj with rfl | rfl | rfl | rfl | rfl
                · exact ⟨fun u hu => ⟨hu.1.ext ((Ext.refl W).alloc _), hu.2⟩, fun _ => trivial⟩
                · exact ⟨fun u hu => ⟨hu.1.ext ((Ext.refl W).alloc _), hu.2⟩, fun hu => hu.ext ((Ext.refl W).alloc _)⟩
                · exact ⟨fun u hu => ⟨hu.1.ext ((Ext.refl W).alloc _), hu.2⟩, fun _ => trivial⟩
                · exact ⟨fun u hu => ⟨hu.1.ext ((Ext.refl W).alloc _), hu.2⟩, fun hu => hu.ext ((Ext.refl W).alloc _)⟩
                · exact ⟨fun u hu => hu, fun _ => trivial⟩
            · have g1 := hw 24 (by decide) (by kernel_rfl)
              refine op_append elem_int (fun _ => rfl) rfl rfl (s := .tmp 90) (x := .tmp 102) rfl (show a.eval (.tmp 90) = y2 from (ha 90 rfl).1) rfl (Nat.le_trans hbase hsz) (by first | (simp; omega) | (simp [knW_len]; omega)) (by omega) hH g1.1.inV fun v' W' o1 gr => ?_
              refine ⟨_, rfl, .inl (by decide), hS.two gr.grown, ⟨o1, gr.lies.imp id fun ⟨q, q1, q2⟩ => ⟨q, q1, Nat.le_trans hsz q2⟩⟩, ?_⟩
              intro j hj hne
              simp only [List.mem_cons, List.not_mem_nil, or_false] at hj
              have far : ∀ u : Value, (∃ g, u.ownBlock = some g ∧ w8.heap.size ≤ g) → u.ownBlock ≠ y2.ownBlock := fun u ⟨q, q1, q2⟩ q3 => by
                have := hB2 q (q3.symm.trans q1)
                omega
              rcases hj with rfl | rfl | rfl | rfl | rfl
              · exact ⟨fun u hu => ⟨hu.1.kept gr.grown (hu.1.ne hH (by decide)), hu.2⟩, fun _ => trivial⟩
              · exact ⟨fun u hu => ⟨hu.1.kept gr.grown (hu.1.ne hH (by decide)), hu.2⟩, fun hu => hu.kept gr.grown (hu.ne hH (by decide))⟩
              · exact ⟨fun u hu => ⟨hu.1.kept gr.grown (.inr (far u hu.2)), hu.2⟩, fun _ => trivial⟩
              · exact absurd rfl hne
              · exact ⟨fun u hu => hu, fun _ => trivial⟩
            · refine op_make (v := .pointer (some ⟨gd, 2, none⟩)) (W' := W) rfl rfl (by
                have e0 : a.tmps[12]?.getD undef = .pointer (some ⟨gd, 0, none⟩) := (ha 12 rfl).2
                go_simp) ?_
              refine ⟨_, rfl, .inl (by decide), hS, rfl, fun j hj hne => ⟨fun u hu => hu, fun hu => hu⟩⟩
          · intro i hi
            simp only [List.mem_cons, List.not_mem_nil, or_false] at hi
            rcases hi with rfl | rfl | rfl | rfl | rfl
            · trivial
            · exact ob1
            · trivial
            · exact ob2
            · trivial
          intro xs W hS hG
          have gB1 := hG 9 (by decide)
          have gA1 := hG 10 (by decide)
          have gB2 := hG 24 (by decide)
          have gA2 := hG 25 (by decide)
          have gV := hG 26 (by decide)
          simp only at gB1 gA1 gB2 gA2 gV
          simp only [putL, List.map_cons, List.map_nil, List.foldl_cons, List.foldl_nil, Act.put]
          simp only [List.setIfInBounds_toArray, List.set_cons_zero, List.set_cons_succ]
          generalize xs 9 = z1 at *
          generalize xs 10 = v1 at *
          generalize xs 24 = z2 at *
          generalize xs 25 = v2 at *
          generalize xs 26 = zp at *
          subst gV
          refine tail_seq 27 rfl (by kernel_rfl) ?_
          simp only [List.drop_succ_cons, List.drop_zero]
          obtain ⟨V3, cv3, rfl, _, _⟩ := gA1.1.inV
          obtain ⟨V4, cv4, rfl, _, _⟩ := gA2.1.inV
          have hT1 := hT.adv hS gA1 gA2
          have hB1' := ((hB.keep2 hT.ox1 hT.ox2 hS).set (p := ⟨gd, 2, none⟩) (by assumption) (.slice V3 (m1 ++ [kbW mask (k + 8)]).length cv3)).set (p := ⟨gd, 3, none⟩) (by assumption) (.slice V4 (m2 ++ [IntKind.i64.wrap (lk + bits .and .i64 (mask / 2 ^ (k + 16)) 1)]).length cv4)
          obtain ⟨hkx, _, _⟩ := hT.keep hS
          obtain ⟨q0, q1, q2, q3, f0, f1, f2, f3⟩ := blk4 hkx
          clear hcell hB1 hB2 hbase hS0 ob1 ob2 hG gA1 gA2 gB1 gB2 hS hT hB
          generalize hn1 : (m1 ++ [kbW mask (k + 8)]).length = n3 at *
          generalize hn2 : (m2 ++ [IntKind.i64.wrap (lk + bits .and .i64 (mask / 2 ^ (k + 16)) 1)]).length = n4 at *
          clear hn1 hn2
          go_wp2_with fail
          refine NoPanic.normal ?_
          clear q0 q1 q2 q3 f0 f1 f2 f3 hkx
          generalize (W.setCell ⟨gd, 2, none⟩ (.slice V3 n3 cv3)).setCell ⟨gd, 3, none⟩ (.slice V4 n4 cv4) = w9 at *
          go_wp2_with fail
          go_roundw
          case rel => exact ⟨k + 1, _, _, _, _, _, _, _, _, by omega, by go_num, by (have := E1.out; simp; omega), by (have := E2.out; simp; omega), by (have := E3.out; simp; omega), by (have := E4.out; simp; omega), hT1.swap, hB1'⟩
          case measure => simp [intOf]; omega
        · have k1 : l.length ≤ k := by omega
          obtain ⟨X1, cx1, rfl, _, _⟩ := hT.ox1.inV
          obtain ⟨X2, cx2, rfl, _, _⟩ := hT.ox2.inV
          obtain ⟨Y1, cy1, rfl, _, _⟩ := hT.oy1.inV
          obtain ⟨Y2, cy2, rfl, _, _⟩ := hT.oy2.inV
          obtain ⟨q0, q1, q2, q3, _⟩ := blk4 hB.last
          obtain ⟨r0, r1, r2, r3, _⟩ := blk4 hB.now
          obtain ⟨s0, s1, s2, s3, _⟩ := blk4 hT.bx
          obtain ⟨t0, t1, t2, t3, _⟩ := blk4 hT.by_
          go_wp2_with fail
          have hT4 : ∃ w4, w4 = wo.alloc (.cells #[.int .i64 a.kind, .int .i64 a.record, .slice A1 a.known.length c1, .slice A2 a.words.length c2, .int .i64 b.kind, .int .i64 b.record, .slice A3 b.known.length c3, .slice A4 b.words.length c4,
            .int .i64 kd, .int .i64 0, .slice X1 l1.length cx1, .slice X2 l2.length cx2, .int .i64 kd, .int .i64 0, .slice Y1 m1.length cy1, .slice Y2 m2.length cy2,
            .int .i64 a.kind, .int .i64 a.record, .slice A1 a.known.length c1, .slice A2 a.words.length c2, .int .i64 kd, .int .i64 0, .slice X1 l1.length cx1, .slice X2 l2.length cx2,
            .int .i64 kd, .int .i64 0, .slice Y1 m1.length cy1, .slice Y2 m2.length cy2, .int .i64 kd, .int .i64 0, .slice Y1 m1.length cy1, .slice Y2 m2.length cy2] 29) := ⟨_, rfl⟩
          obtain ⟨w4, hw4⟩ := hT4
          have he4 : Ext wo w4 := by rw [hw4]; exact (Ext.refl wo).alloc _
          have hb4 := heap_alloc_new wo (.cells #[.int .i64 a.kind, .int .i64 a.record, .slice A1 a.known.length c1, .slice A2 a.words.length c2, .int .i64 b.kind, .int .i64 b.record, .slice A3 b.known.length c3, .slice A4 b.words.length c4,
            .int .i64 kd, .int .i64 0, .slice X1 l1.length cx1, .slice X2 l2.length cx2, .int .i64 kd, .int .i64 0, .slice Y1 m1.length cy1, .slice Y2 m2.length cy2,
            .int .i64 a.kind, .int .i64 a.record, .slice A1 a.known.length c1, .slice A2 a.words.length c2, .int .i64 kd, .int .i64 0, .slice X1 l1.length cx1, .slice X2 l2.length cx2,
            .int .i64 kd, .int .i64 0, .slice Y1 m1.length cy1, .slice Y2 m2.length cy2, .int .i64 kd, .int .i64 0, .slice Y1 m1.length cy1, .slice Y2 m2.length cy2] 29)
          rw [← hw4] at hb4 ⊢
          clear hw4
          have ia : InBl w4 (.slice A1 a.known.length c1) a.known := (InV.mk (by assumption) (hr1.ext hB.ext)).ext he4
          have ib : InI w4 (.slice A2 a.words.length c2) a.words := (InV.mk (by assumption) (hr2.ext hB.ext)).ext he4
          have ic : InBl w4 (.slice A3 b.known.length c3) b.known := (InV.mk (by assumption) (hr3.ext hB.ext)).ext he4
          have id_ : InI w4 (.slice A4 b.words.length c4) b.words := (InV.mk (by assumption) (hr4.ext hB.ext)).ext he4
          have ie := hT.ox1.inV.ext he4
          have if_ := hT.ox2.inV.ext he4
          have ig := hT.oy1.inV.ext he4
          have ih_ := hT.oy2.inV.ext he4
          have z1 : l1.length ≤ 20 := by have := E1.out; omega
          have z2 : l2.length ≤ 20 := by have := E2.out; omega
          have z3 : m1.length ≤ 20 := by have := E3.out; omega
          have z4 : m2.length ≤ 20 := by have := E4.out; omega
          have hR : ∀ j, j < 4 → RowAt w4 wo.heap.size j := by
            intro j hj
            rcases (show j = 0 ∨ j = 1 ∨ j = 2 ∨ j = 3 by omega) with rfl | rfl | rfl | rfl
            · exact ⟨a, b, _, _, _, _, blk_at hb4 0 _ rfl, blk_at hb4 1 _ rfl, blk_at hb4 2 _ rfl, blk_at hb4 3 _ rfl, blk_at hb4 4 _ rfl, blk_at hb4 5 _ rfl, blk_at hb4 6 _ rfl, blk_at hb4 7 _ rfl, ia, ib, ic, id_, g3, g1, g4, g2⟩
            · exact ⟨⟨kd, 0, l1, l2⟩, ⟨kd, 0, m1, m2⟩, _, _, _, _, blk_at hb4 8 _ rfl, blk_at hb4 9 _ rfl, blk_at hb4 10 _ rfl, blk_at hb4 11 _ rfl, blk_at hb4 12 _ rfl, blk_at hb4 13 _ rfl, blk_at hb4 14 _ rfl, blk_at hb4 15 _ rfl, ie, if_, ig, ih_, z1, z2, z3, z4⟩
            · exact ⟨a, ⟨kd, 0, l1, l2⟩, _, _, _, _, blk_at hb4 16 _ rfl, blk_at hb4 17 _ rfl, blk_at hb4 18 _ rfl, blk_at hb4 19 _ rfl, blk_at hb4 20 _ rfl, blk_at hb4 21 _ rfl, blk_at hb4 22 _ rfl, blk_at hb4 23 _ rfl, ia, ib, ie, if_, g3, g1, z1, z2⟩
            · exact ⟨⟨kd, 0, m1, m2⟩, ⟨kd, 0, m1, m2⟩, _, _, _, _, blk_at hb4 24 _ rfl, blk_at hb4 25 _ rfl, blk_at hb4 26 _ rfl, blk_at hb4 27 _ rfl, blk_at hb4 28 _ rfl, blk_at hb4 29 _ rfl, blk_at hb4 30 _ rfl, blk_at hb4 31 _ rfl, ig, ih_, ig, ih_, z3, z4, z3, z4⟩
          have hE4 := hB.ext.trans he4
          generalize wo.heap.size = gr at *
          have HR := Lib.hid hR
          clear hb4 ia ib ic id_ ie if_ ig ih_ hT hB he4 q0 q1 q2 q3 r0 r1 r2 r3 s0 s1 s2 s3 t0 t1 t2 t3 z1 z2 z3 z4 hR
          go_loopw [120] (fun i wr => ∃ j : Nat, j ≤ 4 ∧ i = .int .i64 (j : Int) ∧ Ext w4 wr) (fun i _ => 4 - (intOf i).toNat)
          case atStart => exact ⟨0, by omega, rfl, Ext.refl w4⟩
          case round =>
            obtain ⟨j, hj, rfl, hE⟩ := hrel
            obtain ⟨wp, rfl⟩ : ∃ wp : World, wp = wr := ⟨_, rfl⟩
            by_cases hj4 : j < 4
            · obtain ⟨A, B, x1, x2, y1, y2, d0, d1, d2, d3, d4, d5, d6, d7, i1, i2, i3, i4, h1, h2, h3, h4⟩ := (HR.out j hj4).ext hE
              have hij : (j : Int) < 4 := by omega
              obtain ⟨P1, p1, rfl, _, _⟩ := id i1
              obtain ⟨P2, p2, rfl, _, _⟩ := id i2
              obtain ⟨P3, p3, rfl, _, _⟩ := id i3
              obtain ⟨P4, p4, rfl, _, _⟩ := id i4
              obtain ⟨DL1, DL2⟩ := chkD_len A B h1 h2 h3 h4
              go_wp2_with fail
              have hbx := heap_alloc_new wp (.cells #[.int .i64 A.kind, .int .i64 A.record, .slice P1 A.known.length p1, .slice P2 A.words.length p2, .int .i64 B.kind, .int .i64 B.record, .slice P3 B.known.length p3, .slice P4 B.words.length p4] 29)
              have hex := (Ext.refl wp).alloc (.cells #[.int .i64 A.kind, .int .i64 A.record, .slice P1 A.known.length p1, .slice P2 A.words.length p2, .int .i64 B.kind, .int .i64 B.record, .slice P3 B.known.length p3, .slice P4 B.words.length p4] 29)
              generalize wp.alloc (.cells #[.int .i64 A.kind, .int .i64 A.record, .slice P1 A.known.length p1, .slice P2 A.words.length p2, .int .i64 B.kind, .int .i64 B.record, .slice P3 B.known.length p3, .slice P4 B.words.length p4] 29) = wx at *
              generalize wp.heap.size = gp at *
              have DA : DatAt wx (.agg #[.int .i64 A.kind, .int .i64 A.record, .slice P1 A.known.length p1, .slice P2 A.words.length p2]) A := ⟨_, _, rfl, i1.ext hex, i2.ext hex⟩
              have DB : DatAt wx (.agg #[.int .i64 B.kind, .int .i64 B.record, .slice P3 B.known.length p3, .slice P4 B.words.length p4]) B := ⟨_, _, rfl, i3.ext hex, i4.ext hex⟩
              have hEx := hE.trans hex
              clear hex hE i1 i2 i3 i4 d0 d1 d2 d3 d4 d5 d6 d7
              refine (Check_any _ _ A B wx DA DB (by omega) (by omega) (by omega) (by omega)).mono ?_
              rintro e w5 ⟨v5, r5, rfl, hr5, hd5, he5⟩
              obtain ⟨v5x, v5y, rfl, hvx, hvy⟩ := hd5.at_
              clear hd5
              obtain ⟨d0, d1, d2, d3, d4, d5, d6, d7⟩ := blk8 (he5.heap hbx)
              have lt5 := World.block_lt_of_cell? _ _ d0
              simp only at lt5
              obtain ⟨K1, kc1, rfl, _, _⟩ := id hvx
              obtain ⟨K2, kc2, rfl, _, _⟩ := id hvy
              generalize hD : chkD A B = D at *
              have HD := Lib.hid hD
              clear hD
              go_wp2_with fail
              have hbp := heap_alloc_new w5 (.cells #[.int .i64 D.kind, .int .i64 D.record, .slice K1 D.known.length kc1, .slice K2 D.words.length kc2] 25)
              have hep := (Ext.refl w5).alloc (.cells #[.int .i64 D.kind, .int .i64 D.record, .slice K1 D.known.length kc1, .slice K2 D.words.length kc2] 25)
              generalize w5.alloc (.cells #[.int .i64 D.kind, .int .i64 D.record, .slice K1 D.known.length kc1, .slice K2 D.words.length kc2] 25) = w6 at *
              generalize w5.heap.size = gq at *
              have DP : DatAt w6 (.agg #[.int .i64 D.kind, .int .i64 D.record, .slice K1 D.known.length kc1, .slice K2 D.words.length kc2]) D := ⟨_, _, rfl, hvx.ext hep, hvy.ext hep⟩
              have he6 := he5.trans hep
              clear lt5 hep he5 hvx hvy d0 d1 d2 d3 d4 d5 d6 d7
              refine (refCheck_any _ _ A B w6 (DA.ext he6) (DB.ext he6) (by omega) (by omega) (by omega) (by omega)).mono ?_
              rintro e w7 ⟨v7, r7, rfl, hr7, hd7, he7⟩
              rw [HD.out] at hd7
              obtain rfl : r7 = r5 := by
                cases r7 <;> cases r5 <;> simp_all
              clear hr5 hr7
              obtain ⟨v7x, v7y, rfl, hvx, hvy⟩ := hd7
              obtain ⟨q0, q1, q2, q3, _⟩ := blk4 (he7.heap hbp)
              have lt7 := World.block_lt_of_cell? _ _ q0
              simp only at lt7
              obtain ⟨L1, lc1, rfl, _, _⟩ := id hvx
              obtain ⟨L2, lc2, rfl, _, _⟩ := id hvy
              go_wp2_with fail
              have hbq := heap_alloc_new w7 (.cells #[.int .i64 D.kind, .int .i64 D.record, .slice L1 D.known.length lc1, .slice L2 D.words.length lc2] 25)
              have heq := (Ext.refl w7).alloc (.cells #[.int .i64 D.kind, .int .i64 D.record, .slice L1 D.known.length lc1, .slice L2 D.words.length lc2] 25)
              generalize w7.alloc (.cells #[.int .i64 D.kind, .int .i64 D.record, .slice L1 D.known.length lc1, .slice L2 D.words.length lc2] 25) = w8 at *
              have hbp8 := heq.heap (he7.heap hbp)
              generalize w7.heap.size = gs at *
              have DQ : DatAt w8 (.agg #[.int .i64 D.kind, .int .i64 D.record, .slice L1 D.known.length lc1, .slice L2 D.words.length lc2]) D := ⟨_, _, rfl, hvx.ext heq, hvy.ext heq⟩
              have hE8 := ((hEx.trans he6).trans he7).trans heq
              replace DP := DP.ext (he7.trans heq)
              clear heq he7 he6 hEx hvx hvy q0 q1 q2 q3 lt7 DA DB hbx hbp
              refine (refEqual_any _ _ D D w8 DP DQ (by omega) (by omega) (by omega) (by omega)).mono ?_
              rintro e w9 ⟨r9, rfl, hr9, he9⟩
              obtain rfl : r9 = true := hr9.2 (sameD_refl D)
              obtain ⟨q0, q1, q2, q3, _⟩ := blk4 (he9.heap hbp8)
              obtain ⟨s0, s1, s2, s3, _⟩ := blk4 (he9.heap hbq)
              have hE9 := hE8.trans he9
              clear hr9 hbp8 hbq he9 hE8 DP DQ
              have eb : (r7 != r7) = false := by cases r7 <;> rfl
              have el : ((D.words.length : Int) != (D.words.length : Int)) = false := by simp
              go_wp2_with fail
              go_roundw
              case rel => exact ⟨j + 1, by omega, by go_num, hE9⟩
              case measure => simp [intOf]; omega
            · go_wp2_with fail
              refine (awake_any wp).mono ?_
              rintro e w9 ⟨rfl, he9⟩
              go_wp2
              go_ret
              exact ⟨rfl, hE4.trans (hE.trans he9)⟩
end Go.Proofs.Ytmabaldbilkcjaa
