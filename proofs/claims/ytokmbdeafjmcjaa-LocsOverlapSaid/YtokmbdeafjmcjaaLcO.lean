/- The walk of LocsOverlap. -/
import Derived.Test.YtokmbdeafjmcjaaLcN
import Derived.Test.YtokmbdeafjmcjaaKit
namespace Go.Proofs.Ytokmbdeafjmcjaa
open Go.RowKit
set_option linter.unusedVariables false
set_option linter.unusedSimpArgs false

theorem tabO_in {W : World} {gp gr gt : Nat} {x n y m pc : Int} (hP : W.heap[gp]? = some (.cells #[.int .i64 3, .int .i64 4095, .int .i64 0] 75 (0, 0)))
    (hR : W.heap[gr]? = some (.cells #[.int .i64 0, .int .i64 0, .int .i64 0, .int .i64 x, .int .i64 (x + n), .slice (some ⟨gp, 0, none⟩) 1 1, .int .i64 0, .int .i64 0, .int .i64 pc, .int .i64 (x + y), .int .i64 (x + y + m), .slice (some ⟨gp, 0, none⟩) 1 1] 69 (0, 0)))
    (hT : W.heap[gt]? = some (.cells #[.int .i64 0, .int .i64 60, .slice (some ⟨gr, 0, none⟩) 2 2] 66 (0, 0))) : PTabs W (.slice (some ⟨gt, 0, none⟩) 1 1) [tabO x n y m pc] := by
  refine ⟨[(tabO x n y m pc, .slice (some ⟨gr, 0, none⟩) 2 2)], rfl, ⟨_, 1, rfl, Nat.le_refl _, Rd_blk hT⟩, fun z hz => ?_⟩
  simp only [List.mem_singleton] at hz
  subst hz
  refine ⟨[(rngO 0 x (x + n), .slice (some ⟨gp, 0, none⟩) 1 1), (rngO pc (x + y) (x + y + m), .slice (some ⟨gp, 0, none⟩) 1 1)], rfl, ⟨_, 2, rfl, Nat.le_refl _, Rd_blk hR⟩, fun z hz => ?_⟩
  simp only [List.mem_cons, List.not_mem_nil, or_false] at hz
  rcases hz with rfl | rfl <;> exact ⟨_, 1, rfl, Nat.le_refl _, Rd_blk hP⟩
set_option maxHeartbeats 40000000 in
set_option maxRecDepth 100000 in
theorem overlap19_walk (a b c d : Int) (other : Bool) (w : World) : Calls Try.prog 12 #[.int .i64 a, .int .i64 b, .int .i64 c, .int .i64 d, .bool other] w fun en w' => en = .returned (.bool true) ∧ Ext w w' := by
  go_enter Try.func12, Try.ntmps12
  go_wp2_with fail
  refine (Mod_any a 20 w (by omega) (by omega)).mono ?_
  rintro en wm ⟨rfl, rfl⟩
  obtain ⟨x, hxe, hx⟩ : ∃ x : Int, a % 20 = x ∧ (0 ≤ x ∧ x < 20) := ⟨_, rfl, by omega⟩
  rw [hxe]
  go_wp2_with fail
  refine (Mod_any b 10 w (by omega) (by omega)).mono ?_
  rintro en wm ⟨rfl, rfl⟩
  obtain ⟨n, hne, hnr⟩ : ∃ n : Int, IntKind.i64.wrap (1 + b % 10) = n ∧ (1 ≤ n ∧ n ≤ 10) := ⟨1 + b % 10, by rw [IntKind.wrap_i64]; omega, by omega⟩
  go_wp2_with fail
  refine (Mod_any c 20 w (by omega) (by omega)).mono ?_
  rintro en wm ⟨rfl, rfl⟩
  obtain ⟨y, hye, hy⟩ : ∃ x : Int, c % 20 = x ∧ (0 ≤ x ∧ x < 20) := ⟨_, rfl, by omega⟩
  rw [hye]
  go_wp2_with fail
  refine (Mod_any d 10 w (by omega) (by omega)).mono ?_
  rintro en wm ⟨rfl, rfl⟩
  obtain ⟨m, hme, hmr⟩ : ∃ n : Int, IntKind.i64.wrap (1 + d % 10) = n ∧ (1 ≤ n ∧ n ≤ 10) := ⟨1 + d % 10, by rw [IntKind.wrap_i64]; omega, by omega⟩
  go_upto_region 2 with fail
  clear hxe hne hye hme
  have hB0 := heap_alloc_new w (.cells #[.int .i64 3, .int .i64 4095, .int .i64 0] 75)
  have hE0 := (Ext.refl w).alloc (.cells #[.int .i64 3, .int .i64 4095, .int .i64 0] 75)
  go_upto_region 3 with first | refine wpList_rowOne elem_pc rfl (.tmp 28) rfl #[.int .i64 3, .int .i64 4095, .int .i64 0] rfl rfl (by omega) ?_
  obtain ⟨gp, hgp⟩ : ∃ g, g = w.heap.size := ⟨_, rfl⟩
  rw [← hgp] at hB0 ⊢
  clear hgp
  generalize w.alloc (.cells #[.int .i64 3, .int .i64 4095, .int .i64 0] 75) = w1 at *
  have v1 : IntKind.i64.wrap (x + n) = x + n := wrap_in19 (by omega)
  have v2 : IntKind.i64.wrap (x + y) = x + y := wrap_in19 (by omega)
  have v3 : IntKind.i64.wrap (x + y + m) = x + y + m := wrap_in19 (by omega)
  obtain ⟨gr, hgr⟩ : ∃ g, g = w1.heap.size := ⟨_, rfl⟩
  have hB1 := heap_alloc_new w1 (.cells #[.int .i64 0, .int .i64 0, .int .i64 0, .int .i64 x, .int .i64 (x + n), .slice (some ⟨gp, 0, none⟩) 1 1, .int .i64 0, .int .i64 0, .int .i64 0, .int .i64 (x + y), .int .i64 (x + y + m), .slice (some ⟨gp, 0, none⟩) 1 1] 69)
  have hE1 := hE0.alloc (.cells #[.int .i64 0, .int .i64 0, .int .i64 0, .int .i64 x, .int .i64 (x + n), .slice (some ⟨gp, 0, none⟩) 1 1, .int .i64 0, .int .i64 0, .int .i64 0, .int .i64 (x + y), .int .i64 (x + y + m), .slice (some ⟨gp, 0, none⟩) 1 1] 69)
  have hB01 := ((Ext.refl _).alloc (.cells #[.int .i64 0, .int .i64 0, .int .i64 0, .int .i64 x, .int .i64 (x + n), .slice (some ⟨gp, 0, none⟩) 1 1, .int .i64 0, .int .i64 0, .int .i64 0, .int .i64 (x + y), .int .i64 (x + y + m), .slice (some ⟨gp, 0, none⟩) 1 1] 69)).heap hB0
  rw [← hgr] at hB1
  have hlr : w.heap.size ≤ gr := by rw [hgr]; exact hE0.size
  have hsz : (w1.alloc (.cells #[.int .i64 0, .int .i64 0, .int .i64 0, .int .i64 x, .int .i64 (x + n), .slice (some ⟨gp, 0, none⟩) 1 1, .int .i64 0, .int .i64 0, .int .i64 0, .int .i64 (x + y), .int .i64 (x + y + m), .slice (some ⟨gp, 0, none⟩) 1 1] 69)).heap.size = gr + 1 := by simp [hgr]
  have hB2 := heap_alloc_new (w1.alloc (.cells #[.int .i64 0, .int .i64 0, .int .i64 0, .int .i64 x, .int .i64 (x + n), .slice (some ⟨gp, 0, none⟩) 1 1, .int .i64 0, .int .i64 0, .int .i64 0, .int .i64 (x + y), .int .i64 (x + y + m), .slice (some ⟨gp, 0, none⟩) 1 1] 69)) (.cells #[.int .i64 0, .int .i64 60, .slice (some ⟨gr, 0, none⟩) 2 2] 66)
  have hE2 := hE1.alloc (.cells #[.int .i64 0, .int .i64 60, .slice (some ⟨gr, 0, none⟩) 2 2] 66)
  have hB12 := ((Ext.refl _).alloc (.cells #[.int .i64 0, .int .i64 60, .slice (some ⟨gr, 0, none⟩) 2 2] 66)).heap hB1
  have hB02 := ((Ext.refl _).alloc (.cells #[.int .i64 0, .int .i64 60, .slice (some ⟨gr, 0, none⟩) 2 2] 66)).heap hB01
  rw [hsz] at hB2
  go_upto_region 4 with first | refine wpList_rowTwo19 elem_rg rfl (.tmp 35) (.tmp 45) rfl #[.int .i64 0, .int .i64 0, .int .i64 0, .int .i64 x, .int .i64 (x + n), .slice (some ⟨gp, 0, none⟩) 1 1] #[.int .i64 0, .int .i64 0, .int .i64 0, .int .i64 (x + y), .int .i64 (x + y + m), .slice (some ⟨gp, 0, none⟩) 1 1] rfl rfl rfl rfl (by omega) ?_ | refine wpList_rowOne elem_pl rfl (.tmp 47) rfl #[.int .i64 0, .int .i64 60, .slice (some ⟨gr, 0, none⟩) 2 2] (by first | rfl | (rw [hgr]; rfl)) rfl (by omega) ?_
  rw [← hgr]
  obtain ⟨gt, hgt⟩ : ∃ g, g = gr + 1 := ⟨_, rfl⟩
  rw [← hgt] at hB2 ⊢
  clear hB0 hE0 hB1 hE1 hB01 hsz hgr v1 v2 v3 hgt
  generalize (w1.alloc (.cells #[.int .i64 0, .int .i64 0, .int .i64 0, .int .i64 x, .int .i64 (x + n), .slice (some ⟨gp, 0, none⟩) 1 1, .int .i64 0, .int .i64 0, .int .i64 0, .int .i64 (x + y), .int .i64 (x + y + m), .slice (some ⟨gp, 0, none⟩) 1 1] 69)).alloc (.cells #[.int .i64 0, .int .i64 60, .slice (some ⟨gr, 0, none⟩) 2 2] 66) = W at *
  cases other with
  | false =>
    have hPT := tabO_in hB02 hB12 hB2
    have hX := hE2
    clear hB02 hB12 hB2 hE2 hlr
    by_cases hny : n ≤ y
    · have dny : decide (n ≤ y) = true := by simpa using hny
      have hI : ∀ t ∈ [tabO x n y m 0], t.I := fun t ht => by simp only [List.mem_singleton] at ht; subst ht; exact tabO_I
      have hA := tabO_adds x n y m 0
      have hrt := tabO_right (pc := 0) hx hnr hy hmr (by omega)
      have hen := tabO_enc (pc := 0) hx hnr hy hmr (by omega)
      obtain ⟨L, hL⟩ : ∃ L, L = [tabO x n y m 0] := ⟨_, rfl⟩
      rw [← hL] at hPT hI hA hrt hen
      have hll : L.length ≤ 9223372036854775807 := by rw [hL]; simp
      have HPT := Lib.hid hPT
      have HI := Lib.hid hI
      have HA := Lib.hid hA
      have HEN := Lib.hid hen
      have HRT := Lib.hid hrt
      clear hL hPT hI hA hen hrt
      go_wp2_with fail
      refine (PRight_any L _ W HPT.out HI.out hll).mono ?_
      rintro en wa ⟨r, rfl, hr, hxa⟩
      obtain rfl : r = true := by
        have h1 := hr.trans HRT.out
        cases r
        · first | rfl | (exfalso; have := h1.2 (by first | omega | simp); cases this)
        · first | rfl | (exfalso; have := h1.1 rfl; omega)
      clear hr
      go_wp2_with fail
      refine (PEncode_any L _ wa (HPT.out.ext hxa) HI.out HA.out hll).mono ?_
      rintro en wb ⟨y2, rfl, ho2, hxb⟩
      have hi2 : InB wb y2 (EncP L) := ho2.inV
      obtain ⟨A2, c2, rfl, _, _⟩ := id hi2
      obtain ⟨n2, hn2⟩ : ∃ k, k = (EncP L).length := ⟨_, rfl⟩
      have HN2 : Hid (0 < n2 ↔ (n ≤ y ∨ 0 = (1 : Int))) := Lib.hid (by rw [hn2]; first | exact HEN.out | simpa using HEN.out)
      rw [← hn2]
      clear hi2 ho2 hn2
      have hp2 : 0 < n2 := HN2.out.2 (by first | omega | simp)
      have hX2 := (hX.trans hxa).trans hxb
      clear hxa hxb hX
      go_wp2_with fail
      refine (known19_any wb).mono ?_
      rintro en w4 ⟨rfl, hx4⟩
      go_wp2_with fail
      go_ret
      exact ⟨rfl, hX2.trans hx4⟩
    · have dny : decide (n ≤ y) = false := by simpa using hny
      have hI : ∀ t ∈ [tabO x n y m 0], t.I := fun t ht => by simp only [List.mem_singleton] at ht; subst ht; exact tabO_I
      have hA := tabO_adds x n y m 0
      have hrt := tabO_right (pc := 0) hx hnr hy hmr (by omega)
      have hen := tabO_enc (pc := 0) hx hnr hy hmr (by omega)
      obtain ⟨L, hL⟩ : ∃ L, L = [tabO x n y m 0] := ⟨_, rfl⟩
      rw [← hL] at hPT hI hA hrt hen
      have hll : L.length ≤ 9223372036854775807 := by rw [hL]; simp
      have HPT := Lib.hid hPT
      have HI := Lib.hid hI
      have HA := Lib.hid hA
      have HEN := Lib.hid hen
      have HRT := Lib.hid hrt
      clear hL hPT hI hA hen hrt
      go_wp2_with fail
      refine (PRight_any L _ W HPT.out HI.out hll).mono ?_
      rintro en wa ⟨r, rfl, hr, hxa⟩
      obtain rfl : r = false := by
        have h1 := hr.trans HRT.out
        cases r
        · first | rfl | (exfalso; have := h1.2 (by first | omega | simp); cases this)
        · first | rfl | (exfalso; have := h1.1 rfl; omega)
      clear hr
      go_wp2_with fail
      refine (PEncode_any L _ wa (HPT.out.ext hxa) HI.out HA.out hll).mono ?_
      rintro en wb ⟨y2, rfl, ho2, hxb⟩
      have hi2 : InB wb y2 (EncP L) := ho2.inV
      obtain ⟨A2, c2, rfl, _, _⟩ := id hi2
      obtain ⟨n2, hn2⟩ : ∃ k, k = (EncP L).length := ⟨_, rfl⟩
      have HN2 : Hid (0 < n2 ↔ (n ≤ y ∨ 0 = (1 : Int))) := Lib.hid (by rw [hn2]; first | exact HEN.out | simpa using HEN.out)
      rw [← hn2]
      clear hi2 ho2 hn2
      obtain rfl : n2 = 0 := by have := HN2.out.1; omega
      have hX2 := (hX.trans hxa).trans hxb
      clear hxa hxb hX
      go_wp2_with fail
      refine (known19_any wb).mono ?_
      rintro en w4 ⟨rfl, hx4⟩
      go_wp2_with fail
      go_ret
      exact ⟨rfl, hX2.trans hx4⟩
  | true =>
    obtain ⟨t0, t1, t2⟩ := blk3 hB2
    have k8 := blk_at hB12 8 _ rfl
    have f8 := blk_free hB12 8
    have hlt := heap_lt hB12
    go_upto_region 6 with fail
    have s8 := gset W ⟨gr, 8, none⟩ (.int .i64 1)
    have hX := hE2.grown s8 (fun k e => by cases e; exact hlr)
    have hR9 : (W.setCell ⟨gr, 8, none⟩ (.int .i64 1)).heap[gr]? = some (.cells #[.int .i64 0, .int .i64 0, .int .i64 0, .int .i64 x, .int .i64 (x + n), .slice (some ⟨gp, 0, none⟩) 1 1, .int .i64 0, .int .i64 0, .int .i64 1, .int .i64 (x + y), .int .i64 (x + y + m), .slice (some ⟨gp, 0, none⟩) 1 1] 69 (0, 0)) := blk_set hB12 8 _
    have hP9 := blk_grown hB02 s8 (fun e => blk_ne hB02 hB12 (by decide) (by cases e; rfl))
    have hT9 := blk_grown hB2 s8 (fun e => blk_ne hB2 hB12 (by decide) (by cases e; rfl))
    have hPT := tabO_in hP9 hR9 hT9
    clear t0 t1 t2 k8 f8 hlt s8 hR9 hP9 hT9 hB02 hB12 hB2 hE2 hlr
    generalize W.setCell ⟨gr, 8, none⟩ (.int .i64 1) = W9 at *
    by_cases hny : n ≤ y
    · have dny : decide (n ≤ y) = true := by simpa using hny
      have hI : ∀ t ∈ [tabO x n y m 1], t.I := fun t ht => by simp only [List.mem_singleton] at ht; subst ht; exact tabO_I
      have hA := tabO_adds x n y m 1
      have hrt := tabO_right (pc := 1) hx hnr hy hmr (by omega)
      have hen := tabO_enc (pc := 1) hx hnr hy hmr (by omega)
      obtain ⟨L, hL⟩ : ∃ L, L = [tabO x n y m 1] := ⟨_, rfl⟩
      rw [← hL] at hPT hI hA hrt hen
      have hll : L.length ≤ 9223372036854775807 := by rw [hL]; simp
      have HPT := Lib.hid hPT
      have HI := Lib.hid hI
      have HA := Lib.hid hA
      have HEN := Lib.hid hen
      have HRT := Lib.hid hrt
      clear hL hPT hI hA hen hrt
      go_wp2_with fail
      refine (PRight_any L _ W9 HPT.out HI.out hll).mono ?_
      rintro en wa ⟨r, rfl, hr, hxa⟩
      obtain rfl : r = true := by
        have h1 := hr.trans HRT.out
        cases r
        · first | rfl | (exfalso; have := h1.2 (by first | omega | simp); cases this)
        · first | rfl | (exfalso; have := h1.1 rfl; omega)
      clear hr
      go_wp2_with fail
      refine (PEncode_any L _ wa (HPT.out.ext hxa) HI.out HA.out hll).mono ?_
      rintro en wb ⟨y2, rfl, ho2, hxb⟩
      have hi2 : InB wb y2 (EncP L) := ho2.inV
      obtain ⟨A2, c2, rfl, _, _⟩ := id hi2
      obtain ⟨n2, hn2⟩ : ∃ k, k = (EncP L).length := ⟨_, rfl⟩
      have HN2 : Hid (0 < n2 ↔ (n ≤ y ∨ 1 = (1 : Int))) := Lib.hid (by rw [hn2]; first | exact HEN.out | simpa using HEN.out)
      rw [← hn2]
      clear hi2 ho2 hn2
      have hp2 : 0 < n2 := HN2.out.2 (by first | omega | simp)
      have hX2 := (hX.trans hxa).trans hxb
      clear hxa hxb hX
      go_wp2_with fail
      refine (known19_any wb).mono ?_
      rintro en w4 ⟨rfl, hx4⟩
      go_wp2_with fail
      go_ret
      exact ⟨rfl, hX2.trans hx4⟩
    · have dny : decide (n ≤ y) = false := by simpa using hny
      have hI : ∀ t ∈ [tabO x n y m 1], t.I := fun t ht => by simp only [List.mem_singleton] at ht; subst ht; exact tabO_I
      have hA := tabO_adds x n y m 1
      have hrt := tabO_right (pc := 1) hx hnr hy hmr (by omega)
      have hen := tabO_enc (pc := 1) hx hnr hy hmr (by omega)
      obtain ⟨L, hL⟩ : ∃ L, L = [tabO x n y m 1] := ⟨_, rfl⟩
      rw [← hL] at hPT hI hA hrt hen
      have hll : L.length ≤ 9223372036854775807 := by rw [hL]; simp
      have HPT := Lib.hid hPT
      have HI := Lib.hid hI
      have HA := Lib.hid hA
      have HEN := Lib.hid hen
      have HRT := Lib.hid hrt
      clear hL hPT hI hA hen hrt
      go_wp2_with fail
      refine (PRight_any L _ W9 HPT.out HI.out hll).mono ?_
      rintro en wa ⟨r, rfl, hr, hxa⟩
      obtain rfl : r = true := by
        have h1 := hr.trans HRT.out
        cases r
        · first | rfl | (exfalso; have := h1.2 (by first | omega | simp); cases this)
        · first | rfl | (exfalso; have := h1.1 rfl; omega)
      clear hr
      go_wp2_with fail
      refine (PEncode_any L _ wa (HPT.out.ext hxa) HI.out HA.out hll).mono ?_
      rintro en wb ⟨y2, rfl, ho2, hxb⟩
      have hi2 : InB wb y2 (EncP L) := ho2.inV
      obtain ⟨A2, c2, rfl, _, _⟩ := id hi2
      obtain ⟨n2, hn2⟩ : ∃ k, k = (EncP L).length := ⟨_, rfl⟩
      have HN2 : Hid (0 < n2 ↔ (n ≤ y ∨ 1 = (1 : Int))) := Lib.hid (by rw [hn2]; first | exact HEN.out | simpa using HEN.out)
      rw [← hn2]
      clear hi2 ho2 hn2
      have hp2 : 0 < n2 := HN2.out.2 (by first | omega | simp)
      have hX2 := (hX.trans hxa).trans hxb
      clear hxa hxb hX
      go_wp2_with fail
      refine (known19_any wb).mono ?_
      rintro en w4 ⟨rfl, hx4⟩
      go_wp2_with fail
      go_ret
      exact ⟨rfl, hX2.trans hx4⟩
end Go.Proofs.Ytokmbdeafjmcjaa
