/- The lists of the statements about location lists: which may be encoded (plain). -/
import Derived.Test.YtokmbdeafjmcjaaLcL
import Derived.Test.YtokmbdeafjmcjaaLcG
import Derived.Test.YtokmbdeafjmcjaaLcS
import Derived.Test.YtokmbdeafjmcjaaWireR
namespace Go.Proofs.Ytokmbdeafjmcjaa
open Go.RowKit
set_option linter.unusedVariables false
set_option linter.unusedSimpArgs false

theorem EncP_len (l : List PTab) : (EncP l).length ≤ 60000 := by
  unfold EncP
  split
  · split
    · assumption
    · simp
  · simp
theorem uintB_small {n : Nat} (h : n < 128) : uintB (n : Int) = [UInt8.ofNat n] := by
  unfold uintB
  rw [if_neg (by omega)]
  simpa using leb_small h
/-! the sanity check -/
def tab19 : PTab := ⟨0, 9, [⟨0, 1, 0, 2, 6, [⟨2, 3, 5⟩, ⟨1, 0, 0⟩]⟩]⟩
def bs19 : List UInt8 := [1, 0, 9, 1, 2, 4, 0, 1, 0, 2, 10, 3, 10, 1]
theorem okRngs_one {lo hi : Int} {r : Rng} (h1 : okNum lo hi r) (h2 : okPl r) : okRngs lo hi [r] := by
  intro i h
  have : i = 0 := by simp only [List.length_cons, List.length_nil] at h; omega
  subst this
  exact ⟨h1, h2, by simp, by simp [endOf_nil]⟩
theorem tab19_right : RightP [tab19] := by
  refine ⟨by simp, ⟨?_, ?_, trivial⟩, by simp [rngsN, tab19]⟩
  · simp [okP, tab19]
  · refine okRngs_one ?_ ⟨by simp, by simp, ?_⟩
    · simp [okNum, tab19]
    · simp [okPlc]
theorem tab19_adds : AddsIn [tab19] := by
  intro t ht r hr p hp
  simp only [List.mem_singleton] at ht
  subst ht
  simp only [tab19, List.mem_singleton] at hr
  subst hr
  simp only [List.mem_cons, List.not_mem_nil, or_false] at hp
  rcases hp with rfl | rfl <;> simp [I64]
theorem tab19_enc : encPs [tab19] = bs19 := by
  have u := fun (n : Nat) (h : n < 128) => uintB_small h
  have e0 : uintB 0 = [0] := u 0 (by omega)
  have e1 : uintB 1 = [1] := u 1 (by omega)
  have e2 : uintB 2 = [2] := u 2 (by omega)
  have e3 : uintB 3 = [3] := u 3 (by omega)
  have e4 : uintB 4 = [4] := u 4 (by omega)
  have e9 : uintB 9 = [9] := u 9 (by omega)
  have z5 : leb (zig 5) = [10] := leb_small (u := 10) (by omega)
  simp [encPs, numB, encPT, encRngs, encRng, encPl, pkB, pnB, paB, tab19, bs19, e0, e1, e2, e3, e4, e9, z5]
theorem tab19_dec : decP bs19 = .ok [tab19] := by
  have h1 : cntR 8 bs19 0 = .ok (1, 1) := by kernel_rfl
  have h2 : listsR bs19 1 1 = .ok ([tab19], 14) := by kernel_rfl
  unfold decP
  rw [if_neg (by decide), h1]
  simp only [Int.toNat_one, h2]
  rw [if_neg]
  rintro (h | h)
  · simp [bs19] at h
  · exact h tab19_right
/-! two ranges -/
def rngO (pc lo hi : Int) : Rng := ⟨0, 0, pc, lo, hi, [⟨3, 4095, 0⟩]⟩
def tabO (x n y m pc : Int) : PTab := ⟨0, 60, [rngO 0 x (x + n), rngO pc (x + y) (x + y + m)]⟩
theorem tabO_adds (x n y m pc : Int) : AddsIn [tabO x n y m pc] := by
  intro t ht r hr p hp
  simp only [List.mem_singleton] at ht
  subst ht
  simp only [tabO, List.mem_cons, List.not_mem_nil, or_false] at hr
  rcases hr with rfl | rfl <;> simp only [rngO, List.mem_singleton] at hp <;> subst hp <;> simp [I64]
theorem tabO_I {x n y m pc : Int} : (tabO x n y m pc).I := ⟨by simp [tabO], by simp [tabO], by simp [tabO], fun r hr => by
  simp only [tabO, List.mem_cons, List.not_mem_nil, or_false] at hr
  rcases hr with rfl | rfl <;> simp [rngO]⟩
theorem tabO_right {x n y m pc : Int} (hx : 0 ≤ x ∧ x < 20) (hn : 1 ≤ n ∧ n ≤ 10) (hy : 0 ≤ y ∧ y < 20) (hm : 1 ≤ m ∧ m ≤ 10) (hp : pc = 0 ∨ pc = 1) : RightP [tabO x n y m pc] ↔ (n ≤ y ∨ pc = 1) := by
  have hpl : ∀ pc lo hi, okPl (rngO pc lo hi) := fun pc lo hi => ⟨by simp [rngO], by simp [rngO], by simp [rngO, okPlc]⟩
  have hn1 : okNum 0 60 (rngO 0 x (x + n)) := by simp only [okNum, rngO]; omega
  have hn2 : okNum 0 60 (rngO pc (x + y) (x + y + m)) := by simp only [okNum, rngO]; omega
  constructor
  · intro h
    have h1 := h.2.1.2.1 1 (by simp [tabO])
    simp only [tabO, List.take_succ_cons, List.take_zero, List.getElem_cons_succ, List.getElem_cons_zero] at h1
    rcases hp with rfl | rfl
    · left
      have h2 := h1.2.2.2 (x + n) (by
        have := endOf_snoc [] (rngO 0 x (x + n)) (pcOf (rngO 0 (x + y) (x + y + m)))
        rw [List.nil_append] at this
        rw [this, if_pos (show pcOf (rngO 0 x (x + n)) = pcOf (rngO 0 (x + y) (x + y + m)) from rfl)]
        rfl)
      simp only [rngO] at h2
      omega
    · right; rfl
  · intro h
    refine ⟨by simp, ⟨?_, ?_, trivial⟩, by simp [rngsN, tabO]⟩
    · simp [okP, tabO]
    · intro i hi
      have hi' : i < 2 := by simpa [tabO] using hi
      match i, hi' with
      | 0, _ => exact ⟨hn1, hpl _ _ _, by simp, by simp [endOf_nil]⟩
      | 1, _ =>
        refine ⟨hn2, hpl _ _ _, fun p hp2 => ?_, fun e he => ?_⟩
        · simp only [tabO, List.take_succ_cons, List.take_zero, List.getLast?_singleton, Option.some.injEq] at hp2
          subst hp2
          show x < x + y ∨ (x = x + y ∧ ((0 : Int) < 0 ∨ ((0 : Int) = 0 ∧ ((0 : Int) < 0 ∨ ((0 : Int) = 0 ∧ 0 < pc)))))
          omega
        · simp only [tabO, List.take_succ_cons, List.take_zero, List.getElem_cons_succ, List.getElem_cons_zero] at he ⊢
          have h3 := endOf_snoc [] (rngO 0 x (x + n)) (pcOf (rngO pc (x + y) (x + y + m)))
          rw [List.nil_append] at h3
          rw [h3] at he
          split at he
          · rename_i h4
            have h5 : (0 : Int) = pc := by
              simp only [pcOf, rngO, Prod.mk.injEq] at h4
              exact h4.2.2
            simp only [Option.some.injEq, rngO] at he ⊢
            omega
          · cases he
theorem tabO_len {x n y m pc : Int} (hx : 0 ≤ x ∧ x < 20) (hn : 1 ≤ n ∧ n ≤ 10) (hy : 0 ≤ y ∧ y < 20) (hm : 1 ≤ m ∧ m ≤ 10) (hp : pc = 0 ∨ pc = 1) : 0 < (encPs [tabO x n y m pc]).length ∧ (encPs [tabO x n y m pc]).length ≤ 60000 := by
  have e1 : numB [1] = [1] := by rw [show numB [(1 : Int)] = uintB 1 by simp [numB]]; exact uintB_small (n := 1) (by omega)
  have hpl : ∀ pc lo hi, ((rngO pc lo hi).places.flatMap encPl).length ≤ 21 * (rngO pc lo hi).places.length := fun pc lo hi => encPls_len (fun p hp => by
    simp only [rngO, List.mem_singleton] at hp
    subst hp
    exact ⟨by simp [okPlc], by simp [I64]⟩)
  have h1 := hpl 0 x (x + n)
  have h2 := hpl pc (x + y) (x + y + m)
  have n1 := numB_len (vs := [(0 : Int), 60, 2]) (by simp)
  have n2 := numB_len (vs := [x - 0, x + n - x, 0, 0, 0, 1]) (by simp only [List.mem_cons, List.not_mem_nil, or_false, forall_eq_or_imp, forall_eq]; omega)
  have n3 := numB_len (vs := [x + y - x, x + y + m - (x + y), 0, 0, pc, 1]) (by simp only [List.mem_cons, List.not_mem_nil, or_false, forall_eq_or_imp, forall_eq]; omega)
  have e : encPs [tabO x n y m pc] = numB [1] ++ (numB [(0 : Int), 60, 2] ++ ((numB [x - 0, x + n - x, 0, 0, 0, 1] ++ (rngO 0 x (x + n)).places.flatMap encPl) ++ ((numB [x + y - x, x + y + m - (x + y), 0, 0, pc, 1] ++ (rngO pc (x + y) (x + y + m)).places.flatMap encPl) ++ []))) := by
    simp [encPs, encPT, encRngs, encRng, tabO, rngO]
  rw [e, e1]
  simp only [List.length_append, List.length_cons, List.length_nil] at *
  have l1 : (rngO 0 x (x + n)).places.length = 1 := rfl
  have l2 : (rngO pc (x + y) (x + y + m)).places.length = 1 := rfl
  omega
theorem tabO_enc {x n y m pc : Int} (hx : 0 ≤ x ∧ x < 20) (hn : 1 ≤ n ∧ n ≤ 10) (hy : 0 ≤ y ∧ y < 20) (hm : 1 ≤ m ∧ m ≤ 10) (hp : pc = 0 ∨ pc = 1) : 0 < (EncP [tabO x n y m pc]).length ↔ (n ≤ y ∨ pc = 1) := by
  have h1 := tabO_right hx hn hy hm hp
  have h2 := tabO_len hx hn hy hm hp
  unfold EncP
  by_cases h : RightP [tabO x n y m pc]
  · rw [if_pos h, if_pos h2.2]
    exact ⟨fun _ => h1.1 h, fun _ => h2.1⟩
  · rw [if_neg h]
    exact ⟨fun h3 => by simp at h3, fun h3 => absurd (h1.2 h3) h⟩
end Go.Proofs.Ytokmbdeafjmcjaa
/- The sanity check of the statements about location lists. -/
namespace Go.Proofs.Ytokmbdeafjmcjaa
open Go.RowKit
set_option linter.unusedVariables false
set_option linter.unusedSimpArgs false

section
variable {P : Program}
theorem run_rowTwo19 {t e : TypeId} {k bytes : Nat} (he : ElemN P t e k bytes) (w : World) (cs ds : Array Value) (hs : cs.size = k) (hd : ds.size = k) (hk : k ≤ 1000) :
    (Instr.buildSlice t 2 #[(0, .agg cs), (1, .agg ds)]).run P w = .ok (.slice (some ⟨w.heap.size, 0, none⟩) 2 2) (w.alloc (.cells (cs ++ ds) e)) := by
  obtain ⟨i, z, hi, hz0, hz1, hz2, hzc⟩ := he.info
  have hp := he.pos
  have hf := Great.fill_whole (s := k) hp [.agg cs, .agg ds] ((Array.range (2 * k)).map (z.cells[· % z.cells.size]!)) (fun v hv => by simp only [List.mem_cons, List.not_mem_nil, or_false] at hv; rcases hv with rfl | rfl <;> assumption) (by simp)
  refine run_buildSlice w t e 2 _ (cs ++ ds) i z he.slice hi hz0 (by rw [hz1]; simp; omega) (by rw [hz1]; omega) ?_
  rw [hz1]
  have e : (cs ++ ds) = (([.agg cs, .agg ds] : List Value).flatMap fun v => v.cells.toList).toArray := by
    apply Array.ext'
    simp [Value.cells]
  rw [e]
  exact hf
theorem wpList_rowTwo19 {t e : TypeId} {k bytes : Nat} (he : ElemN P t e k bytes) {ops : Array Oper} {rest : List Oper} {o : Oper} {a : Act} {w : World} {Q : Exit → Act → World → Prop} (hg : o.guard = none) (x y : Operand) (ho : o.op = .buildSlice t 2 #[(0, x), (1, y)])
    (cs ds : Array Value) (hx : a.eval x = .agg cs) (hy : a.eval y = .agg ds) (hs : cs.size = k) (hd : ds.size = k) (hk : k ≤ 1000)
    (h : wpList P ops Q rest (a.put o.dst (.slice (some ⟨w.heap.size, 0, none⟩) 2 2)) (w.alloc (.cells (cs ++ ds) e))) : wpList P ops Q (o :: rest) a w := by
  refine wpList_run hg _ ?_ h
  unfold execOp
  simp only [ho, Sem.run_bind, List.map_toArray, List.map_cons, List.map_nil, hx, hy, run_rowTwo19 he w cs ds hs hd hk, Result.andThen_ok, Sem.run_pure]
end
set_option maxHeartbeats 40000000 in
set_option maxRecDepth 100000 in
theorem known19_any (w : World) : Calls Try.prog 38 #[] w fun en w' => en = .returned (.bool true) ∧ Ext w w' := by
  go_enter Try.func38, Try.ntmps38
  have hB0 := heap_alloc_new w (.cells #[.int .i64 2, .int .i64 3, .int .i64 5, .int .i64 1, .int .i64 0, .int .i64 0] 75)
  have hE0 := (Ext.refl w).alloc (.cells #[.int .i64 2, .int .i64 3, .int .i64 5, .int .i64 1, .int .i64 0, .int .i64 0] 75)
  go_upto_region 2 with first | refine wpList_rowTwo19 elem_pc rfl (.tmp 5) (.tmp 6) rfl #[.int .i64 2, .int .i64 3, .int .i64 5] #[.int .i64 1, .int .i64 0, .int .i64 0] rfl rfl rfl rfl (by omega) ?_ | refine wpList_rowOne elem_rg rfl (.tmp 8) rfl #[.int .i64 0, .int .i64 1, .int .i64 0, .int .i64 2, .int .i64 6, .slice (some ⟨w.heap.size, 0, none⟩) 2 2] rfl rfl (by omega) ?_ | refine wpList_rowOne elem_pl rfl (.tmp 10) rfl #[.int .i64 0, .int .i64 9, .slice (some ⟨w.heap.size + 1, 0, none⟩) 1 1] rfl rfl (by omega) ?_
  trace_state
  have hB1 := heap_alloc_new (w.alloc (.cells #[.int .i64 2, .int .i64 3, .int .i64 5, .int .i64 1, .int .i64 0, .int .i64 0] 75)) (.cells #[.int .i64 0, .int .i64 1, .int .i64 0, .int .i64 2, .int .i64 6, .slice (some ⟨w.heap.size, 0, none⟩) 2 2] 69)
  have hE1 := hE0.alloc (.cells #[.int .i64 0, .int .i64 1, .int .i64 0, .int .i64 2, .int .i64 6, .slice (some ⟨w.heap.size, 0, none⟩) 2 2] 69)
  have hB01 := ((Ext.refl _).alloc (.cells #[.int .i64 0, .int .i64 1, .int .i64 0, .int .i64 2, .int .i64 6, .slice (some ⟨w.heap.size, 0, none⟩) 2 2] 69)).heap hB0
  have hsz : (w.alloc (.cells #[.int .i64 2, .int .i64 3, .int .i64 5, .int .i64 1, .int .i64 0, .int .i64 0] 75)).heap.size = w.heap.size + 1 := by simp
  rw [hsz] at hB1
  have hB2 := heap_alloc_new ((w.alloc (.cells #[.int .i64 2, .int .i64 3, .int .i64 5, .int .i64 1, .int .i64 0, .int .i64 0] 75)).alloc (.cells #[.int .i64 0, .int .i64 1, .int .i64 0, .int .i64 2, .int .i64 6, .slice (some ⟨w.heap.size, 0, none⟩) 2 2] 69)) (.cells #[.int .i64 0, .int .i64 9, .slice (some ⟨w.heap.size + 1, 0, none⟩) 1 1] 66)
  have hE2 := hE1.alloc (.cells #[.int .i64 0, .int .i64 9, .slice (some ⟨w.heap.size + 1, 0, none⟩) 1 1] 66)
  have hB12 := ((Ext.refl _).alloc (.cells #[.int .i64 0, .int .i64 9, .slice (some ⟨w.heap.size + 1, 0, none⟩) 1 1] 66)).heap hB1
  have hB02 := ((Ext.refl _).alloc (.cells #[.int .i64 0, .int .i64 9, .slice (some ⟨w.heap.size + 1, 0, none⟩) 1 1] 66)).heap hB01
  have hsz2 : ((w.alloc (.cells #[.int .i64 2, .int .i64 3, .int .i64 5, .int .i64 1, .int .i64 0, .int .i64 0] 75)).alloc (.cells #[.int .i64 0, .int .i64 1, .int .i64 0, .int .i64 2, .int .i64 6, .slice (some ⟨w.heap.size, 0, none⟩) 2 2] 69)).heap.size = w.heap.size + 1 + 1 := by simp
  rw [hsz2] at hB2
  obtain ⟨T, hT⟩ : ∃ T, T = tab19 := ⟨_, rfl⟩
  have hPT : PTabs (((w.alloc (.cells #[.int .i64 2, .int .i64 3, .int .i64 5, .int .i64 1, .int .i64 0, .int .i64 0] 75)).alloc (.cells #[.int .i64 0, .int .i64 1, .int .i64 0, .int .i64 2, .int .i64 6, .slice (some ⟨w.heap.size, 0, none⟩) 2 2] 69)).alloc (.cells #[.int .i64 0, .int .i64 9, .slice (some ⟨w.heap.size + 1, 0, none⟩) 1 1] 66)) (.slice (some ⟨w.heap.size + 1 + 1, 0, none⟩) 1 1) [T] := by
    rw [hT]
    refine ⟨[(tab19, .slice (some ⟨w.heap.size + 1, 0, none⟩) 1 1)], rfl, ⟨_, 1, rfl, Nat.le_refl _, Rd_blk hB2⟩, fun z hz => ?_⟩
    simp only [List.mem_singleton] at hz
    subst hz
    refine ⟨[(⟨0, 1, 0, 2, 6, [⟨2, 3, 5⟩, ⟨1, 0, 0⟩]⟩, .slice (some ⟨w.heap.size, 0, none⟩) 2 2)], rfl, ⟨_, 1, rfl, Nat.le_refl _, Rd_blk hB12⟩, fun z hz => ?_⟩
    simp only [List.mem_singleton] at hz
    subst hz
    exact ⟨_, 2, rfl, Nat.le_refl _, Rd_blk hB02⟩
  generalize ((w.alloc (.cells #[.int .i64 2, .int .i64 3, .int .i64 5, .int .i64 1, .int .i64 0, .int .i64 0] 75)).alloc (.cells #[.int .i64 0, .int .i64 1, .int .i64 0, .int .i64 2, .int .i64 6, .slice (some ⟨w.heap.size, 0, none⟩) 2 2] 69)).alloc (.cells #[.int .i64 0, .int .i64 9, .slice (some ⟨w.heap.size + 1, 0, none⟩) 1 1] 66) = W at *
  have hI : ∀ t ∈ [T], t.I := fun t ht => by
    simp only [List.mem_singleton] at ht
    subst ht
    rw [hT]
    exact ⟨by simp [tab19], by simp [tab19], by simp [tab19], by simp [tab19]⟩
  have hR : RightP [T] := by rw [hT]; exact tab19_right
  have hAD : AddsIn [T] := by rw [hT]; exact tab19_adds
  obtain ⟨bs, hbs, hbs5⟩ : ∃ bs, bs = encPs [T] ∧ bs = bs19 := ⟨_, rfl, by rw [hT]; exact tab19_enc⟩
  have hbl : bs.length ≤ 60000 := by rw [hbs5]; simp [bs19]
  have hEL : EncP [T] = bs := by unfold EncP; rw [if_pos hR, if_pos (by rw [← hbs]; exact hbl), hbs]
  have hDE : decP bs = .ok [T] := by rw [hbs5, hT]; exact tab19_dec
  have HSM : Hid (∀ t ∈ [T], t.ranges.length ≤ 1000000000 ∧ ∀ r ∈ t.ranges, r.places.length ≤ 1000000000) := Lib.hid (fun t ht => by rw [hT] at ht; simp only [List.mem_singleton] at ht; subst ht; simp [tab19])
  have HI := Lib.hid hI
  have HAD := Lib.hid hAD
  have HBS5 := Lib.hid hbs5
  have HDE := Lib.hid hDE
  have HEL := Lib.hid hEL
  clear hbs hbs5 hB0 hE0 hB1 hE1 hB01 hB2 hB12 hB02 hsz hsz2 hT hI hR hDE hEL hAD
  go_wp2_with fail
  refine (PEncode_any [T] _ W hPT HI.out HAD.out (by simp)).mono ?_
  rintro en w2 ⟨y2, rfl, ho2, hx2⟩
  rw [HEL.out] at ho2
  have hX2 := hE2.trans hx2
  have hi2 : InB w2 y2 bs := ho2.inV
  have hF2 := hPT.ext hx2
  obtain ⟨A2, c2, hv2, _, _⟩ := id hi2
  obtain ⟨n2, hn2⟩ : ∃ n2, n2 = bs.length := ⟨_, rfl⟩
  rw [← hn2] at hv2
  subst hv2
  clear hE2 hPT hx2 ho2 hn2
  go_wp2_with fail
  have hdec := PDecode_any _ bs w2 hi2 (by omega)
  rw [HDE.out] at hdec
  refine hdec.mono ?_
  rintro en w3 ⟨⟨y3, rfl, ho3⟩, hx3⟩
  have hX4 := hX2.trans hx3
  have hi4 := hi2.ext hx3
  have hF4 := hF2.ext hx3
  have hD4 := ho3.in_
  obtain ⟨A3, c3, hv3⟩ := hD4.form
  rw [List.length_singleton] at hv3
  subst hv3
  have hA := (Ext.refl w3).alloc (.cells #[.int .u8 1, .int .u8 0, .int .u8 9, .int .u8 1, .int .u8 2, .int .u8 4, .int .u8 0, .int .u8 1, .int .u8 0, .int .u8 2, .int .u8 10, .int .u8 3, .int .u8 10, .int .u8 1] 5)
  have hy : InB (w3.alloc (.cells #[.int .u8 1, .int .u8 0, .int .u8 9, .int .u8 1, .int .u8 2, .int .u8 4, .int .u8 0, .int .u8 1, .int .u8 0, .int .u8 2, .int .u8 10, .int .u8 3, .int .u8 10, .int .u8 1] 5)) (.slice (some ⟨w3.heap.size, 0, none⟩) 14 14) bs := by
    rw [HBS5.out]
    exact ⟨_, 14, rfl, Nat.le_refl _, Rd_blk (heap_alloc_new w3 (.cells #[.int .u8 1, .int .u8 0, .int .u8 9, .int .u8 1, .int .u8 2, .int .u8 4, .int .u8 0, .int .u8 1, .int .u8 0, .int .u8 2, .int .u8 10, .int .u8 3, .int .u8 10, .int .u8 1] 5))⟩
  have hi5 := hi4.ext hA
  have hF5 := hF4.ext hA
  have hD5 := hD4.ext hA
  have hX5 := hX4.trans hA
  have hbl4 : bs.length ≤ 4294967296 := by omega
  clear hdec hX2 hi2 hF2 hx3 ho3 hX4 hi4 hF4 hD4 hA hbl
  go_wp2_with fail
  generalize w3.alloc (.cells #[.int .u8 1, .int .u8 0, .int .u8 9, .int .u8 1, .int .u8 2, .int .u8 4, .int .u8 0, .int .u8 1, .int .u8 0, .int .u8 2, .int .u8 10, .int .u8 3, .int .u8 10, .int .u8 1] 5) = w5 at *
  refine (sameList_any _ _ bs bs w5 hi5 hy hbl4 hbl4).mono ?_
  rintro en w6 ⟨rfl, n6, rfl⟩
  have hd : decide (bs = bs) = true := by simp
  rw [hd]
  have hXd := (Ext.refl w5).drewN n6
  have hX6 := hX5.trans hXd
  have hF6 := hF5.ext hXd
  have hD6 := hD5.ext hXd
  clear hi5 hy hbl4 hX5 hF5 hD5 hd hXd
  generalize w5.drewN n6 = w6 at *
  go_wp2_with fail
  refine (listsSelf_any _ _ [T] w6 hD6 hF6 (by simp) HSM.out).mono ?_
  rintro en w7 ⟨rfl, hx7⟩
  have hX7 := hX6.trans hx7
  clear hX6 hF6 hD6 hx7
  go_wp2_with fail
  go_ret
  exact ⟨rfl, hX7⟩
end Go.Proofs.Ytokmbdeafjmcjaa
