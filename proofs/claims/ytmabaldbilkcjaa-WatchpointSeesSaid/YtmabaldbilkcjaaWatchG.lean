/- WatchpointSees, walked. -/
import Derived.Test.YtmabaldbilkcjaaWatchF
namespace Go.Proofs.Ytmabaldbilkcjaa
open Go.RowKit
set_option linter.unusedVariables false

/-- the variable 'last' -/
structure Last (w0 wr : World) (g : Nat) (x y : Value) (at_ : Int) : Prop where
  blk : wr.heap[g]? = some (.cells #[.int .i64 1, .int .i64 0, x, y] 25 (0, 0))
  known : OwnV Value.bool 4 w0.heap.size wr x [true]
  words : OwnV iv 3 w0.heap.size wr y [at_]
  ge : w0.heap.size ≤ g
  ext : Ext w0 wr

set_option maxHeartbeats 2000000 in
set_option maxRecDepth 100000 in
theorem sees_walk (n : Int) (u v : Value) (l : List Int) (kn : List Bool) (w : World) (hu : InI w u l) (hv : InBl w v kn) :
    Calls Try.prog 4 #[.int .i64 n, u, v] w fun e w' => e = .returned (.bool true) ∧ Ext w w' := by
  have hU := hu
  have hV := hv
  obtain ⟨A1, c1, rfl, _, hr1⟩ := hu
  obtain ⟨A2, c2, rfl, _, hr2⟩ := hv
  go_enter Try.func4, Try.ntmps4
  go_wp2_with fail
  refine (number_any n true w).mono ?_
  rintro e w1 ⟨v1, rfl, ⟨x1, y1, rfl, hx1, hy1⟩, he1⟩
  simp only [if_true] at hy1
  obtain ⟨B1, d1, rfl, _, _⟩ := hx1.inV
  obtain ⟨B2, d2, rfl, _, _⟩ := hy1.inV
  go_wp2_with fail
  have hL : Last w (w1.alloc (.cells #[.int .i64 1, .int .i64 0, .slice B1 1 d1, .slice B2 1 d2] 25)) w1.heap.size (.slice B1 1 d1) (.slice B2 1 d2) n :=
    ⟨heap_alloc_new w1 _, hx1.ext ((Ext.refl w1).alloc _), hy1.ext ((Ext.refl w1).alloc _), he1.size, he1.alloc _⟩
  clear hx1 hy1 he1
  generalize w1.alloc (.cells #[.int .i64 1, .int .i64 0, .slice B1 1 d1, .slice B2 1 d2] 25) = w2 at *
  generalize w1.heap.size = g at *
  go_loopw [8, 9] (fun p i wr => ∃ (k : Nat) (a : Int) (X Y : Option Addr) (cx cy : Nat), k ≤ l.length ∧ i = .int .i64 (k : Int) ∧ p = .int .i64 a ∧ Last w wr g (.slice X 1 cx) (.slice Y 1 cy) a) (fun _ i _ => l.length - (intOf i).toNat)
  case atStart => exact ⟨0, n, B1, B2, d1, d2, Nat.zero_le _, rfl, rfl, hL⟩
  case round =>
    clear hL
    obtain ⟨k, a, X, Y, cx, cy, hk, rfl, rfl, hL⟩ := hrel
    by_cases hlt : k < l.length
    · obtain ⟨b1, o1, rfl, hc1⟩ := (hr1.ext hL.ext).int hlt
      generalize l[k] = lk at *
      have hi1 : (k : Int) < (l.length : Int) := by omega
      by_cases h40 : (k : Int) < 40
      · by_cases hkn : k < kn.length
        · obtain ⟨b2, o2, rfl, hc2⟩ := (hr2.ext hL.ext).bool hkn
          generalize kn[k] = isb at *
          have hi2 : (k : Int) < (kn.length : Int) := by omega
          have hi3 : ¬ ((kn.length : Int) ≤ (k : Int)) := by omega
          obtain ⟨q0, q1, q2, q3, f0, f1, f2, f3⟩ := blk4 hL.blk
          have hD : DatAt wr (.agg #[.int .i64 1, .int .i64 0, .slice X 1 cx, .slice Y 1 cy]) ⟨1, 0, [true], [a]⟩ := ⟨_, _, rfl, hL.known.inV, hL.words.inV⟩
          go_wp2_with fail
          refine (Mod_any lk 3 wr (by omega) (by omega)).mono ?_
          rintro e w2' ⟨rfl, rfl⟩
          generalize lk % 3 = q at *
          go_wp2_with fail
          refine wp_region_X #[true, true, true, true, true, true, true, true, false, false] 8 2 (by kernel_rfl) rfl ?_
          refine wpX_v 0 (.agg #[.int .i64 1, .int .i64 0, .slice X 1 cx, .slice Y 1 cy]) rfl rfl (by kernel_rfl) (by kernel_rfl) (by kernel_rfl) (fun _ _ _ _ h => h) (by kernel_rfl) rfl (by rfl) ?_ ?_
          · intro W hW
            obtain ⟨q0, q1, q2, q3⟩ := keep4 hL.blk (Ext.trans ((Ext.refl wr).drew) hW)
            go_simp
          simp only [List.setIfInBounds_toArray, List.set_cons_zero, List.set_cons_succ]
          refine wpX_v 1 (.int .i64 q) rfl rfl (by kernel_rfl) (by kernel_rfl) (by kernel_rfl) (fun _ _ _ _ h => h) (by kernel_rfl) rfl (by rfl) (fun W hW => by go_simp) ?_
          simp only [List.setIfInBounds_toArray, List.set_cons_zero, List.set_cons_succ]
          refine wpX_v 2 (.bool isb) rfl rfl (by kernel_rfl) (by kernel_rfl) (by kernel_rfl) (fun _ _ _ _ h => h) (by kernel_rfl) rfl (by rfl) (fun W hW => by go_simp) ?_
          simp only [List.setIfInBounds_toArray, List.set_cons_zero, List.set_cons_succ]
          refine wpX_c 3 11 #[.int .i64 q, .bool isb] rfl rfl (by kernel_rfl) rfl rfl (fun W => by go_simp) ?_
          intro W hW
          refine (number_any q isb _).mono ?_
          rintro e w5 ⟨v5, rfl, hd5, he5⟩
          refine ⟨_, rfl, he5, ?_⟩
          simp only [List.setIfInBounds_toArray, List.set_cons_zero, List.set_cons_succ]
          refine wpX_c 4 8 #[.agg #[.int .i64 1, .int .i64 0, .slice X 1 cx, .slice Y 1 cy], v5] rfl rfl (by kernel_rfl) rfl rfl (fun W => by go_simp) ?_
          intro W' hW'
          refine (Check_any _ v5 _ _ _ (hD.ext ((((Ext.refl wr).drew.trans hW).trans he5).trans hW')) (hd5.at_.ext hW') (by simp) (by simp) (by simp) (by simp)).mono ?_
          rintro e w6 ⟨v6, r6, rfl, hr6, hd6, he6⟩
          refine ⟨_, rfl, he6, ?_⟩
          have hc := chk_one isb a q
          rw [hc.2] at hr6
          rw [hc.1] at hd6
          have hE6 : Ext wr w6 := ((((Ext.refl wr).drew.trans hW).trans he5).trans hW').trans he6
          have hS6 : w.heap.size ≤ W'.heap.size := (hL.ext.trans ((((Ext.refl wr).drew.trans hW).trans he5).trans hW')).size
          obtain ⟨x6, y6, rfl, hx6, hy6⟩ := hd6
          replace hx6 := hx6.low hS6
          replace hy6 := hy6.low hS6
          clear hc hd5 he5 he6 hW hW' hS6
          obtain ⟨X6, cx6, rfl, _, _⟩ := hx6.inV
          obtain ⟨Y6, cy6, rfl, _, _⟩ := hy6.inV
          simp only [List.setIfInBounds_toArray, List.set_cons_zero, List.set_cons_succ]
          refine wpX_v 5 (.tuple #[.agg #[.int .i64 1, .int .i64 0, .slice X6 1 cx6, .slice Y6 1 cy6], .bool r6]) rfl rfl (by kernel_rfl) (by kernel_rfl) (by kernel_rfl) (fun _ _ _ _ h => h) (by kernel_rfl) rfl (by rfl) (fun W hW => by go_simp) ?_
          simp only [List.setIfInBounds_toArray, List.set_cons_zero, List.set_cons_succ]
          refine wpX_v 6 (.agg #[.int .i64 1, .int .i64 0, .slice X6 1 cx6, .slice Y6 1 cy6]) rfl rfl (by kernel_rfl) (by kernel_rfl) (by kernel_rfl) (fun _ _ _ _ h => h) (by kernel_rfl) rfl (by rfl) (fun W hW => by go_simp) ?_
          simp only [List.setIfInBounds_toArray, List.set_cons_zero, List.set_cons_succ]
          refine wpX_l 7 (.bool r6) rfl rfl (by kernel_rfl) (by kernel_rfl) (by kernel_rfl) (fun _ _ _ _ h => h) (LateOK_any rfl (by kernel_rfl) (fun _ _ _ h => h)) rfl (by rfl) (fun W => by go_simp) ?_
          simp only [List.setIfInBounds_toArray, List.set_cons_zero, List.set_cons_succ]
          refine wpX_end rfl fun W7 hE7 => ?_
          refine tail_seq 8 rfl (by kernel_rfl) ?_
          simp only [List.drop_succ_cons, List.drop_zero]
          have hb7 := hE7.heap (hE6.heap hL.blk)
          obtain ⟨z0, z1, z2, z3, y0, y1, y2, y3⟩ := blk4 hb7
          clear q0 q1 q2 q3 f0 f1 f2 f3
          go_wp2_with fail
          refine NoPanic.normal ?_
          have hn1 := (hx6.ext hE7).ne_blk hb7 (by decide)
          have hn2 := (hy6.ext hE7).ne_blk hb7 (by decide)
          have hge := hL.ge
          have hN : Last w ((((W7.setCell ⟨g, 0, none⟩ (.int .i64 1)).setCell ⟨g, 1, none⟩ (.int .i64 0)).setCell ⟨g, 2, none⟩ (.slice X6 1 cx6)).setCell ⟨g, 3, none⟩ (.slice Y6 1 cy6)) g (.slice X6 1 cx6) (.slice Y6 1 cy6) (if isb = true then q else a) := by
            refine ⟨?_, ((((hx6.ext hE7).set_far (p := ⟨g, 0, none⟩) hn1 _).set_far (p := ⟨g, 1, none⟩) hn1 _).set_far (p := ⟨g, 2, none⟩) hn1 _).set_far (p := ⟨g, 3, none⟩) hn1 _, ((((hy6.ext hE7).set_far (p := ⟨g, 0, none⟩) hn2 _).set_far (p := ⟨g, 1, none⟩) hn2 _).set_far (p := ⟨g, 2, none⟩) hn2 _).set_far (p := ⟨g, 3, none⟩) hn2 _, hge, ((((hL.ext.trans (hE6.trans hE7)).setCell (p := ⟨g, 0, none⟩) hge _).setCell (p := ⟨g, 1, none⟩) hge _).setCell (p := ⟨g, 2, none⟩) hge _).setCell (p := ⟨g, 3, none⟩) hge _⟩
            have := blk_set (blk_set (blk_set (blk_set hb7 0 (.int .i64 1)) 1 (.int .i64 0)) 2 (.slice X6 1 cx6)) 3 (.slice Y6 1 cy6)
            simpa using this
          generalize ((((W7.setCell ⟨g, 0, none⟩ (.int .i64 1)).setCell ⟨g, 1, none⟩ (.int .i64 0)).setCell ⟨g, 2, none⟩ (.slice X6 1 cx6)).setCell ⟨g, 3, none⟩ (.slice Y6 1 cy6)) = w8 at *
          clear z0 z1 z2 z3 y0 y1 y2 y3 hb7 hn1 hn2 hx6 hy6 hE6 hE7 hL hD hc1
          obtain ⟨z0, z1, z2, z3, y0, y1, y2, y3⟩ := blk4 hN.blk
          obtain ⟨_, _, ex, _, hrx⟩ := hN.known.inV
          injection ex with ex1 ex2 ex3
          subst ex1
          obtain ⟨bx, ox, rfl, hcx⟩ := hrx.bool (k := 0) (by simp)
          obtain ⟨_, _, ey, _, hry⟩ := hN.words.inV
          injection ey with ey1 ey2 ey3
          subst ey1
          obtain ⟨by_, oy, rfl, hcy⟩ := hry.int (k := 0) (by simp)
          simp only [List.getElem_cons_zero, Nat.add_zero] at hcx hcy
          clear ex2 ex3 ey2 ey3 hrx hry
          cases isb with
          | false =>
            obtain rfl : r6 = false := by
              cases r6 with
              | false => rfl
              | true => exact absurd (hr6.1 rfl).1 (by decide)
            simp only [Bool.false_eq_true, if_false] at hN hcy
            clear hr6
            go_wp2_with fail
            go_roundw
            case rel => exact ⟨k + 1, a, _, _, cx6, cy6, by omega, by go_num, rfl, hN⟩
            case measure => simp [intOf]; omega
          | true =>
            by_cases hq : a = q
            · subst hq
              obtain rfl : r6 = false := by
                cases r6 with
                | false => rfl
                | true => exact absurd rfl (hr6.1 rfl).2
              simp only [if_true] at hN hcy
              clear hr6
              go_wp2_with fail
              go_roundw
              case rel => exact ⟨k + 1, a, _, _, cx6, cy6, by omega, by go_num, rfl, hN⟩
              case measure => simp [intOf]; omega
            · obtain rfl : r6 = true := hr6.2 (by simp [hq])
              have hq1 : (q != a) = true := by simpa using fun e => hq e.symm
              simp only [if_true] at hN hcy
              clear hr6 hq
              go_wp2_with fail
              go_roundw
              case rel => exact ⟨k + 1, q, _, _, cx6, cy6, by omega, by go_num, rfl, hN⟩
              case measure => simp [intOf]; omega
        · have hi3 : (kn.length : Int) ≤ (k : Int) := by omega
          obtain ⟨q0, q1, q2, q3, f0, f1, f2, f3⟩ := blk4 hL.blk
          have hD : DatAt wr (.agg #[.int .i64 1, .int .i64 0, .slice X 1 cx, .slice Y 1 cy]) ⟨1, 0, [true], [a]⟩ := ⟨_, _, rfl, hL.known.inV, hL.words.inV⟩
          go_wp2_with fail
          refine (Mod_any lk 3 wr (by omega) (by omega)).mono ?_
          rintro e w2' ⟨rfl, rfl⟩
          generalize lk % 3 = q at *
          go_wp2_with fail
          refine wp_region_X #[true, true, true, true, true, true, true, true, false, false] 8 2 (by kernel_rfl) rfl ?_
          refine wpX_v 0 (.agg #[.int .i64 1, .int .i64 0, .slice X 1 cx, .slice Y 1 cy]) rfl rfl (by kernel_rfl) (by kernel_rfl) (by kernel_rfl) (fun _ _ _ _ h => h) (by kernel_rfl) rfl (by rfl) ?_ ?_
          · intro W hW
            obtain ⟨q0, q1, q2, q3⟩ := keep4 hL.blk (Ext.trans ((Ext.refl wr).drew) hW)
            go_simp
          simp only [List.setIfInBounds_toArray, List.set_cons_zero, List.set_cons_succ]
          refine wpX_v 1 (.int .i64 q) rfl rfl (by kernel_rfl) (by kernel_rfl) (by kernel_rfl) (fun _ _ _ _ h => h) (by kernel_rfl) rfl (by rfl) (fun W hW => by go_simp) ?_
          simp only [List.setIfInBounds_toArray, List.set_cons_zero, List.set_cons_succ]
          refine wpX_v 2 (.bool true) rfl rfl (by kernel_rfl) (by kernel_rfl) (by kernel_rfl) (fun _ _ _ _ h => h) (by kernel_rfl) rfl (by rfl) (fun W hW => by go_simp) ?_
          simp only [List.setIfInBounds_toArray, List.set_cons_zero, List.set_cons_succ]
          refine wpX_c 3 11 #[.int .i64 q, .bool true] rfl rfl (by kernel_rfl) rfl rfl (fun W => by go_simp) ?_
          intro W hW
          refine (number_any q true _).mono ?_
          rintro e w5 ⟨v5, rfl, hd5, he5⟩
          refine ⟨_, rfl, he5, ?_⟩
          simp only [List.setIfInBounds_toArray, List.set_cons_zero, List.set_cons_succ]
          refine wpX_c 4 8 #[.agg #[.int .i64 1, .int .i64 0, .slice X 1 cx, .slice Y 1 cy], v5] rfl rfl (by kernel_rfl) rfl rfl (fun W => by go_simp) ?_
          intro W' hW'
          refine (Check_any _ v5 _ _ _ (hD.ext ((((Ext.refl wr).drew.trans hW).trans he5).trans hW')) (hd5.at_.ext hW') (by simp) (by simp) (by simp) (by simp)).mono ?_
          rintro e w6 ⟨v6, r6, rfl, hr6, hd6, he6⟩
          refine ⟨_, rfl, he6, ?_⟩
          have hc := chk_one true a q
          rw [hc.2] at hr6
          rw [hc.1] at hd6
          have hE6 : Ext wr w6 := ((((Ext.refl wr).drew.trans hW).trans he5).trans hW').trans he6
          have hS6 : w.heap.size ≤ W'.heap.size := (hL.ext.trans ((((Ext.refl wr).drew.trans hW).trans he5).trans hW')).size
          obtain ⟨x6, y6, rfl, hx6, hy6⟩ := hd6
          replace hx6 := hx6.low hS6
          replace hy6 := hy6.low hS6
          clear hc hd5 he5 he6 hW hW' hS6
          obtain ⟨X6, cx6, rfl, _, _⟩ := hx6.inV
          obtain ⟨Y6, cy6, rfl, _, _⟩ := hy6.inV
          simp only [List.setIfInBounds_toArray, List.set_cons_zero, List.set_cons_succ]
          refine wpX_v 5 (.tuple #[.agg #[.int .i64 1, .int .i64 0, .slice X6 1 cx6, .slice Y6 1 cy6], .bool r6]) rfl rfl (by kernel_rfl) (by kernel_rfl) (by kernel_rfl) (fun _ _ _ _ h => h) (by kernel_rfl) rfl (by rfl) (fun W hW => by go_simp) ?_
          simp only [List.setIfInBounds_toArray, List.set_cons_zero, List.set_cons_succ]
          refine wpX_v 6 (.agg #[.int .i64 1, .int .i64 0, .slice X6 1 cx6, .slice Y6 1 cy6]) rfl rfl (by kernel_rfl) (by kernel_rfl) (by kernel_rfl) (fun _ _ _ _ h => h) (by kernel_rfl) rfl (by rfl) (fun W hW => by go_simp) ?_
          simp only [List.setIfInBounds_toArray, List.set_cons_zero, List.set_cons_succ]
          refine wpX_l 7 (.bool r6) rfl rfl (by kernel_rfl) (by kernel_rfl) (by kernel_rfl) (fun _ _ _ _ h => h) (LateOK_any rfl (by kernel_rfl) (fun _ _ _ h => h)) rfl (by rfl) (fun W => by go_simp) ?_
          simp only [List.setIfInBounds_toArray, List.set_cons_zero, List.set_cons_succ]
          refine wpX_end rfl fun W7 hE7 => ?_
          refine tail_seq 8 rfl (by kernel_rfl) ?_
          simp only [List.drop_succ_cons, List.drop_zero]
          have hb7 := hE7.heap (hE6.heap hL.blk)
          obtain ⟨z0, z1, z2, z3, y0, y1, y2, y3⟩ := blk4 hb7
          clear q0 q1 q2 q3 f0 f1 f2 f3
          go_wp2_with fail
          refine NoPanic.normal ?_
          have hn1 := (hx6.ext hE7).ne_blk hb7 (by decide)
          have hn2 := (hy6.ext hE7).ne_blk hb7 (by decide)
          have hge := hL.ge
          have hN : Last w ((((W7.setCell ⟨g, 0, none⟩ (.int .i64 1)).setCell ⟨g, 1, none⟩ (.int .i64 0)).setCell ⟨g, 2, none⟩ (.slice X6 1 cx6)).setCell ⟨g, 3, none⟩ (.slice Y6 1 cy6)) g (.slice X6 1 cx6) (.slice Y6 1 cy6) (if true = true then q else a) := by
            refine ⟨?_, ((((hx6.ext hE7).set_far (p := ⟨g, 0, none⟩) hn1 _).set_far (p := ⟨g, 1, none⟩) hn1 _).set_far (p := ⟨g, 2, none⟩) hn1 _).set_far (p := ⟨g, 3, none⟩) hn1 _, ((((hy6.ext hE7).set_far (p := ⟨g, 0, none⟩) hn2 _).set_far (p := ⟨g, 1, none⟩) hn2 _).set_far (p := ⟨g, 2, none⟩) hn2 _).set_far (p := ⟨g, 3, none⟩) hn2 _, hge, ((((hL.ext.trans (hE6.trans hE7)).setCell (p := ⟨g, 0, none⟩) hge _).setCell (p := ⟨g, 1, none⟩) hge _).setCell (p := ⟨g, 2, none⟩) hge _).setCell (p := ⟨g, 3, none⟩) hge _⟩
            have := blk_set (blk_set (blk_set (blk_set hb7 0 (.int .i64 1)) 1 (.int .i64 0)) 2 (.slice X6 1 cx6)) 3 (.slice Y6 1 cy6)
            simpa using this
          generalize ((((W7.setCell ⟨g, 0, none⟩ (.int .i64 1)).setCell ⟨g, 1, none⟩ (.int .i64 0)).setCell ⟨g, 2, none⟩ (.slice X6 1 cx6)).setCell ⟨g, 3, none⟩ (.slice Y6 1 cy6)) = w8 at *
          clear z0 z1 z2 z3 y0 y1 y2 y3 hb7 hn1 hn2 hx6 hy6 hE6 hE7 hL hD hc1
          obtain ⟨z0, z1, z2, z3, y0, y1, y2, y3⟩ := blk4 hN.blk
          obtain ⟨_, _, ex, _, hrx⟩ := hN.known.inV
          injection ex with ex1 ex2 ex3
          subst ex1
          obtain ⟨bx, ox, rfl, hcx⟩ := hrx.bool (k := 0) (by simp)
          obtain ⟨_, _, ey, _, hry⟩ := hN.words.inV
          injection ey with ey1 ey2 ey3
          subst ey1
          obtain ⟨by_, oy, rfl, hcy⟩ := hry.int (k := 0) (by simp)
          simp only [List.getElem_cons_zero, Nat.add_zero] at hcx hcy
          clear ex2 ex3 ey2 ey3 hrx hry
          by_cases hq : a = q
          · subst hq
            obtain rfl : r6 = false := by
              cases r6 with
              | false => rfl
              | true => exact absurd rfl (hr6.1 rfl).2
            simp only [if_true] at hN hcy
            clear hr6
            go_wp2_with fail
            go_roundw
            case rel => exact ⟨k + 1, a, _, _, cx6, cy6, by omega, by go_num, rfl, hN⟩
            case measure => simp [intOf]; omega
          · obtain rfl : r6 = true := hr6.2 (by simp [hq])
            have hq1 : (q != a) = true := by simpa using fun e => hq e.symm
            simp only [if_true] at hN hcy
            clear hr6 hq
            go_wp2_with fail
            go_roundw
            case rel => exact ⟨k + 1, q, _, _, cx6, cy6, by omega, by go_num, rfl, hN⟩
            case measure => simp [intOf]; omega
      · have h41 := h40
        have hE := hL.ext
        go_wp2_with fail
        refine (awake_any wr).mono ?_
        rintro e w9 ⟨rfl, he9⟩
        go_wp2
        go_ret
        exact ⟨rfl, hE.trans he9⟩
    · have hi1 : ¬ ((k : Int) < (l.length : Int)) := by omega
      have hE := hL.ext
      go_wp2_with fail
      refine (awake_any wr).mono ?_
      rintro e w9 ⟨rfl, he9⟩
      go_wp2
      go_ret
      exact ⟨rfl, hE.trans he9⟩
end Go.Proofs.Ytmabaldbilkcjaa
