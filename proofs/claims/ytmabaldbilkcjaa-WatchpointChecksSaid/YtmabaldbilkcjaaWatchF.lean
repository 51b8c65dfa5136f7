/- The contract of watchpoint.Check; number and awake of the statements. -/
import Derived.Test.YtmabaldbilkcjaaWatchE
import Derived.Test.YtmabaldbilkcjaaKit
import Derived.Test.YtmabaldbilkcjaaRegion
namespace Go.Proofs.Ytmabaldbilkcjaa
open Go.RowKit
set_option linter.unusedVariables false

instance decAlike (a b : Dat) : Decidable (alikeD a b) := by unfold alikeD; infer_instance
/-- what is remembered, and whether the value has changed -/
def chkD (a b : Dat) : Dat := if alikeD a b then ⟨a.kind, a.record, stepK b a.known b.known.length, stepW b a.words b.known.length⟩ else b
def chkC (a b : Dat) : Prop := if alikeD a b then stepC a b b.known.length = true else ¬ sameD a b

theorem Check_any (u v : Value) (a b : Dat) (w : World) (hu : DatAt w u a) (hv : DatAt w v b)
    (ha1 : a.known.length ≤ 1073741824) (ha2 : a.words.length ≤ 1073741824) (hb1 : b.known.length ≤ 1073741824) (hb2 : b.words.length ≤ 1073741824) :
    Calls Try.prog 8 #[u, v] w (CheckPost (chkD a b) (chkC a b) w) := by
  unfold chkD chkC
  by_cases h : alikeD a b
  · simp only [if_pos h]; exact Check_alike u v a b w hu hv h ha1 ha2 hb1 hb2
  · simp only [if_neg h]; exact Check_unlike u v a b w hu hv h ha1 ha2 hb1 hb2

def NumPost (d : Dat) (w : World) (e : Ending) (w' : World) : Prop := ∃ v, e = .returned v ∧ OwnDat w.heap.size w' v d ∧ Ext w w'

theorem OwnV_one {α : Type} {f : α → Value} (w : World) (x : α) (e : TypeId) : OwnV f e w.heap.size (w.alloc (.cells #[f x] e)) (.slice (some ⟨w.heap.size, 0, none⟩) 1 1) [x] :=
  ⟨rfl, .inr ⟨w.heap.size, 1, #[f x], rfl, Nat.le_refl _, heap_alloc_new w _, Nat.le_refl _, by decide, rfl, rfl⟩⟩
theorem num_at (w : World) (o : Obj) (kn : Bool) (n : Int) : OwnDat w.heap.size (((w.alloc o).alloc (.cells #[.bool kn] 4)).alloc (.cells #[.int .i64 n] 3)) (.agg #[.int .i64 1, .int .i64 0, .slice (some ⟨w.heap.size + 1, 0, none⟩) 1 1, .slice (some ⟨w.heap.size + 1 + 1, 0, none⟩) 1 1]) ⟨1, 0, [kn], [n]⟩ := by
  refine ⟨_, _, rfl, ?_, ?_⟩
  · have h := ((OwnV_one (f := Value.bool) (w.alloc o) kn 4).ext ((Ext.refl _).alloc (.cells #[.int .i64 n] 3))).low (base' := w.heap.size) (by simp)
    simpa using h
  · have h := (OwnV_one (f := iv) ((w.alloc o).alloc (.cells #[.bool kn] 4)) n 3).low (base' := w.heap.size) (by simp; omega)
    simpa [iv] using h

set_option maxRecDepth 100000 in
theorem number_any (n : Int) (kn : Bool) (w : World) : Calls Try.prog 11 #[.int .i64 n, .bool kn] w (NumPost ⟨1, 0, [kn], [if kn then n else 0]⟩ w) := by
  cases kn with
  | true =>
    go_enter Try.func11, Try.ntmps11
    go_wp2
    refine bodyPost_ret (v := .agg #[.int .i64 1, .int .i64 0, .slice (some ⟨w.heap.size + 1, 0, none⟩) 1 1, .slice (some ⟨w.heap.size + 1 + 1, 0, none⟩) 1 1]) (by simp [results, Try.results11, go_sem]) rfl ?_
    exact ⟨_, rfl, num_at w _ true n, (((Ext.refl w).alloc _).alloc _).alloc _⟩
  | false =>
    go_enter Try.func11, Try.ntmps11
    go_wp2
    refine bodyPost_ret (v := .agg #[.int .i64 1, .int .i64 0, .slice (some ⟨w.heap.size + 1, 0, none⟩) 1 1, .slice (some ⟨w.heap.size + 1 + 1, 0, none⟩) 1 1]) (by simp [results, Try.results11, go_sem]) rfl ?_
    exact ⟨_, rfl, num_at w _ false 0, (((Ext.refl w).alloc _).alloc _).alloc _⟩

theorem keep4 {w w' : World} {g : Nat} {a0 a1 a2 a3 : Value} {t : TypeId} (h0 : w.heap[g]? = some (.cells #[a0, a1, a2, a3] t (0, 0))) (he : Ext w w') :
    w'.cell? ⟨g, 0, none⟩ = some a0 ∧ w'.cell? ⟨g, 1, none⟩ = some a1 ∧ w'.cell? ⟨g, 2, none⟩ = some a2 ∧ w'.cell? ⟨g, 3, none⟩ = some a3 := by
  obtain ⟨q0, q1, q2, q3, _⟩ := blk4 (he.heap h0)
  exact ⟨q0, q1, q2, q3⟩
theorem chk_one (k : Bool) (p q : Int) : chkD ⟨1, 0, [true], [p]⟩ ⟨1, 0, [k], [if k then q else 0]⟩ = ⟨1, 0, [true], [if k then q else p]⟩ ∧ (chkC ⟨1, 0, [true], [p]⟩ ⟨1, 0, [k], [if k then q else 0]⟩ ↔ (k = true ∧ p ≠ q)) := by
  have hal : alikeD ⟨1, 0, [true], [p]⟩ ⟨1, 0, [k], [if k then q else 0]⟩ := ⟨rfl, rfl, rfl, rfl, rfl⟩
  unfold chkD chkC
  rw [if_pos hal, if_pos hal]
  cases k <;> simp [stepK, stepW, stepC]

set_option maxHeartbeats 2000000 in
set_option maxRecDepth 100000 in
theorem awake_any (w : World) : Calls Try.prog 6 #[] w fun e w' => e = .returned (.bool true) ∧ Ext w w' := by
  go_enter Try.func6, Try.ntmps6
  go_wp2_with fail
  refine (number_any 5 true w).mono ?_
  rintro e w1 ⟨v1, rfl, hd1, he1⟩
  have hd1' : DatAt w1 v1 ⟨1, 0, [true], [5]⟩ := hd1.at_
  clear hd1
  go_wp2_with fail
  refine (number_any 0 false w1).mono ?_
  rintro e w2 ⟨v2, rfl, hd2, he2⟩
  go_wp2_with fail
  refine (Check_any v1 v2 _ _ w2 (hd1'.ext he2) hd2.at_ (by simp) (by simp) (by simp) (by simp)).mono ?_
  rintro e w3 ⟨v3, r3, rfl, hr3, hd3, he3⟩
  have hc := chk_one false 5 0
  rw [hc.2] at hr3
  rw [hc.1] at hd3
  obtain rfl : r3 = false := by
    cases r3 with
    | false => rfl
    | true => exact absurd (hr3.1 rfl).1 (by decide)
  have hd3' : DatAt w3 v3 ⟨1, 0, [true], [5]⟩ := hd3.at_
  clear hr3 hc hd3 hd1' hd2
  have hD := hd3'
  obtain ⟨x3, y3, rfl, ⟨A3, c3, rfl, _, hrx⟩, ⟨A4, c4, rfl, _, hry⟩⟩ := hd3'
  obtain ⟨b4, o4, rfl, hc4⟩ := hry.int (k := 0) (by simp)
  have hE3 := (he1.trans he2).trans he3
  clear he1 he2 he3
  have hc4' : w3.cell? ⟨b4, o4, none⟩ = some (.int .i64 5) := hc4
  clear hc4
  go_wp2_with fail
  have hb := heap_alloc_new w3 (.cells #[.int .i64 1, .int .i64 0, .slice A3 1 c3, .slice (some ⟨b4, o4, none⟩) 1 c4] 25)
  have hE4 := hE3.alloc (.cells #[.int .i64 1, .int .i64 0, .slice A3 1 c3, .slice (some ⟨b4, o4, none⟩) 1 c4] 25)
  have hD4 : DatAt _ (.agg #[.int .i64 1, .int .i64 0, .slice A3 1 c3, .slice (some ⟨b4, o4, none⟩) 1 c4]) ⟨1, 0, [true], [5]⟩ := hD.ext ((Ext.refl w3).alloc (.cells #[.int .i64 1, .int .i64 0, .slice A3 1 c3, .slice (some ⟨b4, o4, none⟩) 1 c4] 25))
  have hc5 := ((Ext.refl w3).alloc (.cells #[.int .i64 1, .int .i64 0, .slice A3 1 c3, .slice (some ⟨b4, o4, none⟩) 1 c4] 25)).cell hc4'
  clear hD hc4' hE3 hry hrx
  generalize hg : w3.heap.size = g at *
  generalize w3.alloc (.cells #[.int .i64 1, .int .i64 0, .slice A3 1 c3, .slice (some ⟨b4, o4, none⟩) 1 c4] 25) = w4 at *
  clear hg
  obtain ⟨q0, q1, q2, q3, _⟩ := blk4 hb
  refine wp_region_X #[true, true, true, true, true, true, true, false, false] 7 2 (by kernel_rfl) rfl ?_
  refine wpX_f 6 (.cells #[.int .i64 0, .int .i64 0, .slice none 0 0, .slice none 0 0] 25 (0, 0)) rfl rfl (by kernel_rfl) (by kernel_rfl) (by kernel_rfl) (fun _ _ _ _ h => h) rfl (fun a W => by go_simp) w4.heap.size (Nat.le_refl _) (by kernel_rfl) ?_
  refine wpX_v 0 (.agg #[.int .i64 1, .int .i64 0, .slice A3 1 c3, .slice (some ⟨b4, o4, none⟩) 1 c4]) rfl rfl (by kernel_rfl) (by kernel_rfl) (by kernel_rfl) (fun _ _ _ _ h => h) (by kernel_rfl) rfl (by rfl) ?_ ?_
  · intro W hW
    obtain ⟨q0, q1, q2, q3⟩ := keep4 hb (Ext.trans ((Ext.refl w4).drew) hW)
    go_simp
  simp only [List.setIfInBounds_toArray, List.set_cons_zero, List.set_cons_succ]
  refine wpX_c 1 11 #[.int .i64 6, .bool true] rfl rfl (by kernel_rfl) rfl rfl (fun W => by go_simp) ?_
  intro W hW
  refine (number_any 6 true _).mono ?_
  rintro e w5 ⟨v5, rfl, hd5, he5⟩
  refine ⟨_, rfl, he5, ?_⟩
  simp only [List.setIfInBounds_toArray, List.set_cons_zero, List.set_cons_succ]
  refine wpX_c 2 8 #[(.agg #[.int .i64 1, .int .i64 0, .slice A3 1 c3, .slice (some ⟨b4, o4, none⟩) 1 c4]), v5] rfl rfl (by kernel_rfl) rfl rfl (fun W => by go_simp) ?_
  intro W' hW'
  refine (Check_any _ v5 _ _ _ (hD4.ext ((((Ext.refl w4).drew.trans hW).trans he5).trans hW')) (hd5.at_.ext hW') (by simp) (by simp) (by simp) (by simp)).mono ?_
  rintro e w6 ⟨v6, r6, rfl, hr6, hd6, he6⟩
  refine ⟨_, rfl, he6, ?_⟩
  have hc := chk_one true 5 6
  rw [hc.2] at hr6
  obtain rfl : r6 = true := hr6.2 ⟨rfl, by decide⟩
  have hd6' : DatAt w6 v6 ⟨1, 0, [true], [6]⟩ := by rw [hc.1] at hd6; exact hd6.at_
  clear hd6
  obtain ⟨x6, y6, rfl, hx6, hy6⟩ := hd6'
  have hE6 : Ext w4 w6 := ((((Ext.refl w4).drew.trans hW).trans he5).trans hW').trans he6
  clear hr6 hc hd5 he5 he6 hW hW'
  simp only [List.setIfInBounds_toArray, List.set_cons_zero, List.set_cons_succ]
  obtain ⟨X6, cx6, rfl, _, _⟩ := hx6
  obtain ⟨Y6, cy6, rfl, _, _⟩ := hy6
  refine wpX_v 3 (.tuple #[.agg #[.int .i64 1, .int .i64 0, .slice X6 1 cx6, .slice Y6 1 cy6], .bool true]) rfl rfl (by kernel_rfl) (by kernel_rfl) (by kernel_rfl) (fun _ _ _ _ h => h) (by kernel_rfl) rfl (by rfl) (fun W hW => by go_simp) ?_
  simp only [List.setIfInBounds_toArray, List.set_cons_zero, List.set_cons_succ]
  refine wpX_v 4 (.agg #[.int .i64 1, .int .i64 0, .slice X6 1 cx6, .slice Y6 1 cy6]) rfl rfl (by kernel_rfl) (by kernel_rfl) (by kernel_rfl) (fun _ _ _ _ h => h) (by kernel_rfl) rfl (by rfl) (fun W hW => by go_simp) ?_
  simp only [List.setIfInBounds_toArray, List.set_cons_zero, List.set_cons_succ]
  refine wpX_l 5 (.bool true) rfl rfl (by kernel_rfl) (by kernel_rfl) (by kernel_rfl) (fun _ _ _ _ h => h) (LateOK_land (by intro cs b h; cases h) (by decide) (by decide) (LateOK_any rfl (by kernel_rfl) (fun _ _ _ h => h))) rfl (by rfl) (fun W => by go_simp) ?_
  simp only [List.setIfInBounds_toArray, List.set_cons_zero, List.set_cons_succ]
  refine wpX_end rfl fun W7 hE7 => Land.mk fun g' hg' hz => ?_
  refine tail_seq 7 rfl (by kernel_rfl) ?_
  simp only [List.drop_succ_cons, List.drop_zero, List.setIfInBounds_toArray, List.set_cons_zero, List.set_cons_succ]
  obtain ⟨z0, z1, z2, z3, y0, y1, y2, y3⟩ := blk4 hz
  go_wp2_with fail
  refine NoPanic.normal ?_
  have hE8 := ((((hE6.trans hE7).setCell (p := ⟨g', 0, none⟩) hg' (.int .i64 1)).setCell (p := ⟨g', 1, none⟩) hg' (.int .i64 0)).setCell (p := ⟨g', 2, none⟩) hg' (.slice X6 1 cx6)).setCell (p := ⟨g', 3, none⟩) hg' (.slice Y6 1 cy6)
  generalize ((((W7.setCell ⟨g', 0, none⟩ (.int .i64 1)).setCell ⟨g', 1, none⟩ (.int .i64 0)).setCell ⟨g', 2, none⟩ (.slice X6 1 cx6)).setCell ⟨g', 3, none⟩ (.slice Y6 1 cy6)) = w8 at *
  clear z0 z1 z2 z3 y0 y1 y2 y3 hz
  obtain ⟨r0, r1, r2, r3⟩ := keep4 hb hE8
  have hc8 := hE8.cell hc5
  have hE9 := hE4.trans hE8
  clear hE4 hE8 hE6 hE7 hb hc5 hD4
  go_wp2
  refine bodyPost_ret (v := .bool true) (by simp [results, Try.results6, go_sem]) rfl ?_
  exact ⟨rfl, hE9⟩
end Go.Proofs.Ytmabaldbilkcjaa
