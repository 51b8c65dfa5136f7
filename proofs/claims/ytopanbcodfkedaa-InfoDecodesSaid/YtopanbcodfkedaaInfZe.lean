/- The walk of the specification's Decode. -/
import Derived.Test.YtopanbcodfkedaaInfZd
namespace Go.Proofs.Ytopanbcodfkedaa
open Go.RowKit
set_option linter.unusedVariables false
set_option linter.unusedSimpArgs false

theorem namesS_len {b : List UInt8} : ∀ (k : Nat) (l : List (Int × Int)) (s : RS18), (namesS b k l s).1.length ≤ l.length + k
  | 0, l, s => by simp [namesS]
  | k + 1, l, s => by
    unfold namesS
    split
    · simp only; omega
    · refine Nat.le_trans (namesS_len k _ _) ?_
      rw [List.length_append]
      simp only [List.length_cons, List.length_nil]
      omega
theorem shpS_len (b : List UInt8) (n : Nat) (s : RS18) : (shpS b n s).1.ps.length ≤ 12 := by
  unfold shpS
  simp only
  generalize uintS b (kidF (uintS b (tagF (uintS b (shp0 n s))))) = c
  obtain ⟨v, st⟩ := c
  simp only
  by_cases h : 12 < v
  · have hd : (cntF (v, st)).e ≠ 0 := by
      unfold cntF
      rw [if_pos h]
      exact failS_zero (by decide)
    rw [namesS_dead hd]
    simp
  · have := namesS_len (b := b) v.toNat [] (cntF (v, st))
    simp only [List.length_nil] at this
    omega
theorem shpS_200 {b : List UInt8} {n : Nat} {s : RS18} (hn : 200 ≤ n) : (shpS b n s).2.e ≠ 0 := by
  have h0 : (shp0 n s).e ≠ 0 := by unfold shp0; rw [if_pos hn]; exact failS_zero (by decide)
  unfold shpS
  simp only
  rw [uintS_dead h0, tagF_dead h0, uintS_dead h0, kidF_dead, uintS_dead h0, cntF_dead, namesS_dead h0]
  exact h0
def slLen : Value → Nat
  | .slice _ n _ => n
  | _ => 0
/-- shapes of the call's own -/
structure SO (w : World) (sv : Value) (zs : List (PSh × Value)) (W : World) : Prop where
  row : OwnR pshCells 3 69 w.heap.size W sv zs
  nm : ∀ z ∈ zs, OwnV iv 3 w.heap.size W z.2 (flatP z.1.ps)
section
variable {w w1 W W' : World} {sv : Value} {zs : List (PSh × Value)} {gr : Nat} {x : Value} {s : RS18}
theorem SO.ext (h : SO w sv zs W) (he : Ext W W') : SO w sv zs W' := ⟨h.row.ext he, fun z hz => (h.nm z hz).ext he⟩
theorem Kept.ownV1 {α : Type} {f : α → Value} {e : TypeId} {b0 : Nat} {v : Value} {l : List α} (h : Kept w1.heap.size [gr] w1 W) (ho : OwnV f e b0 w1 v l) (hr : RBlk gr x s w1) (hne : e ≠ 107) : OwnV f e b0 W v l :=
  ho.kept h.g1 (.inr (ho.ne_blk hr hne))
theorem SO.kept (h : SO w sv zs w1) (hk : Kept w1.heap.size [gr] w1 W) (hr : RBlk gr x s w1) : SO w sv zs W := ⟨hk.own1 h.row hr (by decide), fun z hz => hk.ownV1 (h.nm z hz) hr (by decide)⟩
theorem SO.st (h : SO w sv zs w1) (hr : RBlk gr x s w1) : St [gr] w1 (fun W => InR pshCells W sv zs ∧ ∀ z ∈ zs, InI W z.2 (flatP z.1.ps)) := fun W hW => ⟨(h.kept hW hr).row.inR, fun z hz => ((h.kept hW hr).nm z hz).inV⟩
theorem Kept.toExt (h : Kept w1.heap.size [gr] w1 W) (he : Ext w w1) (hg : w.heap.size ≤ gr) : Ext w W := he.grown h.g1 (fun k e => by cases e; exact hg)
theorem SO.push (h : SO w sv zs W) {sv' : Value} {p : PSh} {y : Value} (hy : OwnV iv 3 w.heap.size W y (flatP p.ps)) (ho : OwnR pshCells 3 69 w.heap.size W' sv' (zs ++ [(p, y)])) (hg : Grew W W' sv sv') : SO w sv' (zs ++ [(p, y)]) W' := by
  refine ⟨ho, fun z hz => ?_⟩
  rcases List.mem_append.1 hz with hz | hz
  · exact (h.nm z hz).kept hg.grown (row_ne (h.nm z hz) h.row (by decide))
  · simp only [List.mem_singleton] at hz
    subst hz
    exact hy.kept hg.grown (row_ne hy h.row (by decide))
end
set_option maxHeartbeats 40000000 in
set_option maxRecDepth 100000 in
theorem refDecode21_any (xa xb : Value) (a b : List UInt8) (w : World) (hxa : InB w xa a) (hxb : InB w xb b) (hla : a.length ≤ 1000000) (hlb : b.length ≤ 1000000) : Calls Try.prog 32 #[xa, xb] w (DecEPost (decS21 a b) w) := by
  obtain ⟨Aa, ca, rfl, _, _⟩ := id hxa
  obtain ⟨Ab, cb, rfl, _, _⟩ := id hxb
  obtain ⟨na, hna⟩ : ∃ n, n = a.length := ⟨_, rfl⟩
  obtain ⟨nb, hnb⟩ : ∃ n, n = b.length := ⟨_, rfl⟩
  rw [← hna] at hxa ⊢
  rw [← hnb] at hxb ⊢
  have HNA := Lib.hid hna
  have HNB := Lib.hid hnb
  have HXA := Lib.hid hxa
  have HXB := Lib.hid hxb
  clear hxa hxb
  go_enter Try.func32, Try.ntmps32
  have hX := Ext.refl w
  by_cases h6 : 60000 < na
  case pos =>
    have d6 : decide ((60000 : Int) < (na : Int)) = true := by simp; omega
    have HP : Hid (decS21 a b = .error 5) := Lib.hid (by unfold decS21; rw [if_pos (.inl (by rw [← hna]; exact h6))])
    clear hna hnb hla hlb
    go_wp2_with fail
    refine bodyPost_ret (by simp [results, Try.results32, go_sem]; rfl) rfl ?_
    rw [HP.out]
    exact ⟨rfl, hX⟩
  have d6 : decide ((60000 : Int) < (na : Int)) = false := by simp; omega
  by_cases h7 : 60000 < nb
  case pos =>
    have d7 : decide ((60000 : Int) < (nb : Int)) = true := by simp; omega
    have HP : Hid (decS21 a b = .error 5) := Lib.hid (by unfold decS21; rw [if_pos (.inr (by rw [← hnb]; exact h7))])
    clear hna hnb hla hlb
    go_wp2_with fail
    refine bodyPost_ret (by simp [results, Try.results32, go_sem]; rfl) rfl ?_
    rw [HP.out]
    exact ⟨rfl, hX⟩
  have d7 : decide ((60000 : Int) < (nb : Int)) = false := by simp; omega
  obtain ⟨RZ, hRZ⟩ : ∃ r, r = shpsS a 201 [] ⟨0, 0⟩ := ⟨_, rfl⟩
  have HD : Hid (decS21 a b = if RZ.2.e ≠ 0 then .error RZ.2.e else if (endF b (treeS RZ.1 b (b.length + 1) [] 0 true ⟨0, 0⟩).2).e ≠ 0 then .error (endF b (treeS RZ.1 b (b.length + 1) [] 0 true ⟨0, 0⟩).2).e else .ok (treeS RZ.1 b (b.length + 1) [] 0 true ⟨0, 0⟩).1) := Lib.hid (by
    rw [hRZ]
    conv => lhs; unfold decS21
    rw [if_neg (by omega)])
  have HRZ := Lib.hid hRZ
  have HL := Lib.hid (show a.length ≤ 60000 ∧ b.length ≤ 60000 by omega)
  clear hna hnb hla hlb h6 h7 hRZ hX
  go_upto_region 5 with fail
  clear d6 d7
  have hE1 := (Ext.refl w).alloc (.cells #[.slice Aa na ca, .int .i64 0, .int .i64 0] 107)
  have hb1 : RBlk w.heap.size (.slice Aa na ca) ⟨0, 0⟩ (w.alloc (.cells #[.slice Aa na ca, .int .i64 0, .int .i64 0] 107)) := heap_alloc_new w (.cells #[.slice Aa na ca, .int .i64 0, .int .i64 0] 107)
  obtain ⟨gr, hgr⟩ : ∃ g, g = w.heap.size := ⟨_, rfl⟩
  have hlr : w.heap.size ≤ gr := by omega
  rw [← hgr] at hb1 ⊢
  clear hgr
  generalize w.alloc (.cells #[.slice Aa na ca, .int .i64 0, .int .i64 0] 107) = w1 at *
  have hS1 : SO w (.slice none 0 0) [] w1 := ⟨OwnR.nil _, by simp⟩
  go_loopw [6] (fun sv wr => ∃ (zs : List (PSh × Value)) (s : RS18) (f : Nat), Hid (RZ = shpsS a f (zs.map Prod.fst) s) ∧ f + zs.length = 201 ∧ Hid (s.e = 0 → zs.length ≤ 200) ∧ Hid (∀ z ∈ zs, z.1.ps.length ≤ 12) ∧ SO w sv zs wr ∧ RBlk gr (.slice Aa na ca) s wr ∧ Ext w wr) (fun sv _ => 202 - slLen sv)
  case atStart => exact ⟨[], ⟨0, 0⟩, 201, HRZ, rfl, Lib.hid (fun _ => by simp), Lib.hid (by simp), hS1, hb1, hE1⟩
  case round =>
    clear hS1 hb1 hE1
    obtain ⟨zs, s, f, HS, hfz, HZ2, HZ12, hS, hb, hX⟩ := hrel
    obtain ⟨wo, rfl⟩ : ∃ W : World, W = wr := ⟨_, rfl⟩
    obtain ⟨AS, cS, hsv, _⟩ := id hS.row.inR
    obtain ⟨zl, hzl⟩ : ∃ z, z = zs.length := ⟨_, rfl⟩
    rw [← hzl] at hsv hfz
    subst hsv
    have HZL := Lib.hid hzl
    clear hzl
    go_upto_region 5 with fail
    go_cut [33] (fun sl wx => ∃ d : Bool, sl = .bool d ∧ (d = true ↔ s.e = 0 ∧ s.p < na) ∧ wx = wo)
    case first =>
      obtain ⟨k0, k1, k2⟩ := blk3' hb
      by_cases h1 : s.e = 0
      · have d1 : (s.e == 0) = true := by simpa using h1
        have d1' : decide (s.e = 0) = true := by simpa using h1
        by_cases h2 : s.p < (na : Int)
        · have d2 : decide (s.p < (na : Int)) = true := by simpa using h2
          have HQ : Hid (s.e = 0 ∧ s.p < na) := Lib.hid ⟨h1, h2⟩
          clear h1 h2
          go_wp2_with fail
          go_meet
          exact ⟨true, rfl, ⟨fun _ => HQ.out, fun _ => rfl⟩, rfl⟩
        · have d2 : decide (s.p < (na : Int)) = false := by simpa using h2
          have HQ : Hid (¬ (s.e = 0 ∧ s.p < na)) := Lib.hid (fun h => h2 h.2)
          clear h1 h2
          go_wp2_with fail
          go_meet
          exact ⟨false, rfl, ⟨fun h => (by cases h), fun h => absurd h HQ.out⟩, rfl⟩
      · have d1 : (s.e == 0) = false := by simpa using h1
        have d1' : decide (s.e = 0) = false := by simpa using h1
        have HQ : Hid (¬ (s.e = 0 ∧ s.p < na)) := Lib.hid (fun h => h1 h.1)
        clear h1
        go_wp2_with fail
        go_meet
        exact ⟨false, rfl, ⟨fun h => (by cases h), fun h => absurd h HQ.out⟩, rfl⟩
    obtain ⟨d, rfl, hd, hwe⟩ := hcut
    subst hwe
    obtain ⟨wo, rfl⟩ : ∃ W : World, W = wc := ⟨_, rfl⟩
    cases d with
    | true =>
      obtain ⟨hse, hsp⟩ := hd.1 rfl
      clear hd
      have hz200 : zl ≤ 200 := by rw [HZL.out]; exact HZ2.out hse
      obtain ⟨f1, rfl⟩ : ∃ f1, f = f1 + 1 := ⟨f - 1, by omega⟩
      have HSN : Hid (RZ = shpsS a f1 (zs.map Prod.fst ++ [(shpS a zl s).1]) (shpS a zl s).2) := Lib.hid (by
        rw [HS.out]
        conv => lhs; unfold shpsS
        rw [if_neg (by rw [← HNA.out]; exact fun h => h.elim (fun h => h hse) (fun h => h hsp)), List.length_map, ← HZL.out])
      have HZN : Hid ((shpS a zl s).2.e = 0 → zl + 1 ≤ 200) := Lib.hid (fun h => by
        by_cases h2 : 200 ≤ zl
        · exact absurd h (shpS_200 h2)
        · omega)
      have HPN := Lib.hid (shpS_len a zl s)
      have hst : St [gr] wo (fun W => InB W (.slice Aa na ca) a) := fun W hW => HXA.out.ext (hW.toExt hX hlr)
      clear hse hsp HS
      go_wp2_with fail
      refine (readShape_any gr _ a zl s wo hst hb (by have := HL.out; omega) (by omega)).mono ?_
      rintro en0 w2 ⟨y, rfl, hy, hb2, hk2⟩
      generalize shpS a zl s = r at *
      obtain ⟨p, s2⟩ := r
      dsimp only at hy hb2 HSN HZN HPN ⊢
      have hX2 := hk2.toExt hX hlr
      have hS2 := hS.kept hk2 hb
      have hy2 := hy.low hX.size
      obtain ⟨AY, cY, hyv, _⟩ := id hy.inV
      obtain ⟨ny, hny⟩ : ∃ n, n = (flatP p.ps).length := ⟨_, rfl⟩
      rw [← hny] at hyv
      subst hyv
      have hA := (Ext.refl w2).alloc (.cells #[.int .i64 p.tag, .int .i64 p.kids, .slice AY ny cY] 69)
      have hin : InR pshCells (w2.alloc (.cells #[.int .i64 p.tag, .int .i64 p.kids, .slice AY ny cY] 69)) (.slice (some ⟨w2.heap.size, 0, none⟩) 1 1) [(p, .slice AY ny cY)] := (OwnR_one (f := pshCells) w2 (p, .slice AY ny cY) rfl 69).inR
      have hone : ∀ z ∈ [((p, (Value.slice AY ny cY)) : PSh × Value)], ∀ u ∈ pshCells z, u.oneCell' = true := fun z hz u hu => by
        simp only [List.mem_singleton] at hz
        subst hz
        simp only [pshCells, List.mem_cons, List.not_mem_nil, or_false] at hu
        rcases hu with rfl | rfl | rfl <;> rfl
      have hSA := hS2.ext hA
      have hXA := hX2.trans hA
      have hbA : RBlk gr (.slice Aa na ca) s2 (w2.alloc (.cells #[.int .i64 p.tag, .int .i64 p.kids, .slice AY ny cY] 69)) := hA.heap hb2
      have hyA := hy2.ext hA
      have hrw := hSA.row
      have hszA := hXA.size
      clear hst hy hb2 hk2 hX2 hS2 hy2 hny hS hb hX
      go_wp2_with first | refine wpList_rowOne elem_sh rfl (.tmp 38) rfl #[.int .i64 p.tag, .int .i64 p.kids, .slice AY ny cY] rfl rfl (by omega) ?_ | (at_builtin; go_must (refine wpList_appendR elem_sh rfl (.tmp 34) (.tmp 39) rfl w.heap.size _ zs rfl hrw _ [(p, .slice AY ny cY)] rfl hin (fun _ _ => rfl) hone (by rw [← HZL.out]; simp only [List.length_cons, List.length_nil]; omega) (by omega) hszA (Hold.out ?_)))
      refine Hold.mk fun v9 w9 ho9 hg9 => ?_
      have hS9 := hSA.push hyA ho9 hg9
      have hb9 : RBlk gr (.slice Aa na ca) s2 w9 := blk_grown hbA hg9.grown (hrw.ne_blk hbA (by decide)).symm
      have hX9 := hg9.ext hXA hrw.ge
      obtain ⟨A9, c9, hv9, _⟩ := id ho9.inR
      obtain ⟨n9, hn9⟩ : ∃ n, n = (zs ++ [((p, (Value.slice AY ny cY)) : PSh × Value)]).length := ⟨_, rfl⟩
      have hn91 : n9 = zl + 1 := by rw [hn9, List.length_append, ← HZL.out]; rfl
      rw [← hn9] at hv9
      subst hv9
      have HN9 := Lib.hid hn91
      have HN9b := Lib.hid hn9
      clear hA hin hone hSA hXA hbA hyA hrw hszA ho9 hg9 hn9 hn91
      have HSN2 : Hid (RZ = shpsS a f1 ((zs ++ [((p, (Value.slice AY ny cY)) : PSh × Value)]).map Prod.fst) s2) := Lib.hid (by rw [HSN.out, List.map_append]; rfl)
      have HZN2 : Hid (s2.e = 0 → (zs ++ [((p, (Value.slice AY ny cY)) : PSh × Value)]).length ≤ 200) := Lib.hid (fun h => by rw [← HN9b.out, HN9.out]; exact HZN.out h)
      have HPN2 : Hid (∀ z ∈ zs ++ [((p, (Value.slice AY ny cY)) : PSh × Value)], z.1.ps.length ≤ 12) := Lib.hid (fun z hz => by
        rcases List.mem_append.1 hz with hz | hz
        · exact HZ12.out z hz
        · simp only [List.mem_singleton] at hz
          subst hz
          exact HPN.out)
      go_wp2_with fail
      go_roundw
      case rel => exact ⟨_, s2, f1, HSN2, by rw [← HN9b.out, HN9.out]; omega, HZN2, HPN2, hS9, hb9, hX9⟩
      case measure => simp only [slLen]; have := HN9.out; omega
    | false =>
      have HSE : Hid (RZ = (zs.map Prod.fst, s)) := Lib.hid (by
        rw [HS.out]
        by_cases h : s.e = 0
        · have h2 : ¬ s.p < (na : Int) := fun h3 => by have := hd.2 ⟨h, h3⟩; cases this
          cases f with
          | zero => rfl
          | succ f => unfold shpsS; rw [if_pos (.inr (by rw [← HNA.out]; exact h2))]
        · exact shpsS_dead h)
      clear hd HS
      obtain ⟨k0, k1, k2⟩ := blk3' hb
      by_cases hse : s.e = 0
      case neg =>
        have d1 : (s.e != 0) = true := by simpa using hse
        have d1' : decide (s.e = 0) = false := by simpa using hse
        have HP : Hid (decS21 a b = .error s.e) := Lib.hid (by rw [HD.out, HSE.out, if_pos hse])
        clear hse
        go_upto_region 8 with fail
        go_quiet (fail)
        have hXq := hX.trans ((Ext.refl wo).drewN nq)
        clear hX
        go_wp2_with fail
        refine bodyPost_ret (by simp [results, Try.results32, go_sem]; rfl) rfl ?_
        rw [HP.out]
        exact ⟨rfl, hXq⟩
      have d1 : (s.e != 0) = false := by simpa using hse
      have d1' : decide (s.e = 0) = true := by simpa using hse
      have HD2 : Hid (decS21 a b = if (endF b (treeS (zs.map Prod.fst) b (b.length + 1) [] 0 true ⟨0, 0⟩).2).e ≠ 0 then .error (endF b (treeS (zs.map Prod.fst) b (b.length + 1) [] 0 true ⟨0, 0⟩).2).e else .ok (treeS (zs.map Prod.fst) b (b.length + 1) [] 0 true ⟨0, 0⟩).1) := Lib.hid (by
        rw [HD.out, HSE.out, if_neg (fun h => h hse)])
      clear hse
      have hz201 : zs.length ≤ 201 := by rw [← HZL.out]; omega
      go_upto_region 10 with fail
      clear k0 k1 k2 hb d1 d1'
      have hE2 := (Ext.refl wo).alloc (.cells #[.slice Ab nb cb, .int .i64 0, .int .i64 0] 107)
      have hb2 : RBlk wo.heap.size (.slice Ab nb cb) ⟨0, 0⟩ (wo.alloc (.cells #[.slice Ab nb cb, .int .i64 0, .int .i64 0] 107)) := heap_alloc_new wo (.cells #[.slice Ab nb cb, .int .i64 0, .int .i64 0] 107)
      obtain ⟨g2, hg2⟩ : ∃ g, g = wo.heap.size := ⟨_, rfl⟩
      have hl2 : w.heap.size ≤ g2 := by have := hX.size; omega
      rw [← hg2] at hb2 ⊢
      clear hg2
      have hX2 := hX.trans hE2
      have hS2 := hS.ext hE2
      generalize wo.alloc (.cells #[.slice Ab nb cb, .int .i64 0, .int .i64 0] 107) = w2 at *
      clear hE2 hX hS
      have hst : St [g2] w2 (fun W => InB W (.slice Ab nb cb) b) := fun W hW => HXB.out.ext (hW.toExt hX2 hl2)
      have hss := hS2.st hb2
      go_wp2_with fail
      refine (tree21_any g2 _ _ b zs w2 hst hss HZ12.out hz201 hb2 HL.out.2).mono ?_
      rintro en0 w3 ⟨y, rfl, hy, hb3, hk3⟩
      have hX3 := hk3.toExt hX2 hl2
      have hy3 := hy.low hX2.size
      generalize treeS (zs.map Prod.fst) b (b.length + 1) [] 0 true ⟨0, 0⟩ = r at *
      obtain ⟨l, s3⟩ := r
      dsimp only at hy3 hb3 HD2 ⊢
      clear hst hss hy hk3 hX2 hS2 hb2
      obtain ⟨k0, k1, k2⟩ := blk3' hb3
      go_upto_region 11 with fail
      go_cut [69] (fun sl wx => ∃ d : Bool, sl = .bool d ∧ (d = true ↔ s3.e = 0 ∧ s3.p < nb) ∧ wx = w3)
      case first =>
        by_cases h1 : s3.e = 0
        · have d1 : (s3.e == 0) = true := by simpa using h1
          have d1' : decide (s3.e = 0) = true := by simpa using h1
          by_cases h2 : s3.p < (nb : Int)
          · have d2 : decide (s3.p < (nb : Int)) = true := by simpa using h2
            have HQ : Hid (s3.e = 0 ∧ s3.p < nb) := Lib.hid ⟨h1, h2⟩
            clear h1 h2
            go_wp2_with fail
            go_meet
            exact ⟨true, rfl, ⟨fun _ => HQ.out, fun _ => rfl⟩, rfl⟩
          · have d2 : decide (s3.p < (nb : Int)) = false := by simpa using h2
            have HQ : Hid (¬ (s3.e = 0 ∧ s3.p < nb)) := Lib.hid (fun h => h2 h.2)
            clear h1 h2
            go_wp2_with fail
            go_meet
            exact ⟨false, rfl, ⟨fun h => (by cases h), fun h => absurd h HQ.out⟩, rfl⟩
        · have d1 : (s3.e == 0) = false := by simpa using h1
          have d1' : decide (s3.e = 0) = false := by simpa using h1
          have HQ : Hid (¬ (s3.e = 0 ∧ s3.p < nb)) := Lib.hid (fun h => h1 h.1)
          clear h1
          go_wp2_with fail
          go_meet
          exact ⟨false, rfl, ⟨fun h => (by cases h), fun h => absurd h HQ.out⟩, rfl⟩
      obtain ⟨d, rfl, hd, hwe⟩ := hcut
      subst hwe
      obtain ⟨w3, rfl⟩ : ∃ W : World, W = wc := ⟨_, rfl⟩
      clear k0 k1 k2
      go_upto_if 69 with fail
      go_cut [] (fun wx => RBlk g2 (.slice Ab nb cb) (endF b s3) wx ∧ w3.grownBy wx (some g2))
      case first =>
        cases d with
        | true =>
          have HP : Hid (endF b s3 = failS 4 s3) := Lib.hid (by unfold endF; rw [if_pos (by rw [← HNB.out]; exact hd.1 rfl)])
          clear hd
          go_wp2_with fail
          refine (rFail_any g2 _ 4 s3 w3 hb3).mono ?_
          rintro en0 wf ⟨⟨vf, rfl⟩, hbf, hgf⟩
          rw [← HP.out] at hbf
          go_wp2_with fail
          go_meet
          exact ⟨hbf, hgf⟩
        | false =>
          have HP : Hid (endF b s3 = s3) := Lib.hid (by unfold endF; rw [if_neg (fun h => by rw [← HNB.out] at h; have := hd.2 h; cases this)])
          clear hd
          have hb4 := hb3
          rw [← HP.out] at hb4
          go_wp2_with fail
          go_meet
          exact ⟨hb4, ⟨rfl, rfl, rfl, Nat.le_refl _, fun _ _ _ => rfl⟩⟩
      obtain ⟨hb4, hg4⟩ := hcut
      obtain ⟨w4, rfl⟩ : ∃ W : World, W = wc := ⟨_, rfl⟩
      have hk4 : Kept w3.heap.size [g2] w3 w4 := Kept.of_grown hg4 (Nat.le_refl _) (fun k e => by cases e; exact .inr (by simp))
      have hy4 := hy3.keptR hk4 hb3
      have hX4 := hX3.grown hg4 (fun k e => by cases e; exact hl2)
      obtain ⟨s4, hs4⟩ : ∃ z, z = endF b s3 := ⟨_, rfl⟩
      rw [← hs4] at hb4 HD2
      clear hd hs4 hk4 hg4 hb3 hy3 hX3
      obtain ⟨k0, k1, k2⟩ := blk3' hb4
      by_cases h4 : s4.e = 0
      · have d1 : (s4.e != 0) = false := by simpa using h4
        have d1' : decide (s4.e = 0) = true := by simpa using h4
        have HP : Hid (decS21 a b = .ok l) := Lib.hid (by rw [HD2.out, if_neg (fun h => h h4)])
        clear h4
        go_wp2_with fail
        refine bodyPost_ret (by simp [results, Try.results32, go_sem]; rfl) rfl ?_
        rw [HP.out]
        exact ⟨⟨_, rfl, hy4⟩, hX4⟩
      · have d1 : (s4.e != 0) = true := by simpa using h4
        have d1' : decide (s4.e = 0) = false := by simpa using h4
        have HP : Hid (decS21 a b = .error s4.e) := Lib.hid (by rw [HD2.out, if_pos h4])
        clear h4
        go_upto_region 14 with fail
        go_quiet (fail)
        have hXq := hX4.trans ((Ext.refl w4).drewN nq)
        clear hX4
        go_wp2_with fail
        refine bodyPost_ret (by simp [results, Try.results32, go_sem]; rfl) rfl ?_
        rw [HP.out]
        exact ⟨rfl, hXq⟩
end Go.Proofs.Ytopanbcodfkedaa
