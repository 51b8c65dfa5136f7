/- The walk of InfoDecodes. -/
import Derived.Test.YtopanbcodfkedaaInfZe
import Derived.Test.YtopanbcodfkedaaInfR
import Derived.Test.YtopanbcodfkedaaInfY
namespace Go.Proofs.Ytopanbcodfkedaa
open Go.RowKit
set_option linter.unusedVariables false
set_option linter.unusedSimpArgs false

theorem valsD_len {b : List UInt8} : ∀ {r l m : List Att} {p q : Int}, valsD b r l p = .ok (m, q) → m.length = l.length + r.length
  | [], l, m, p, q, h => by
    unfold valsD at h
    injection h with h
    injection h with h1 h2
    subst h1
    simp
  | a :: r, l, m, p, q, h => by
    unfold valsD at h
    rcases h1 : valD a b p with e | ⟨x, q1⟩
    · rw [h1] at h; cases h
    · rw [h1] at h
      have := valsD_len (r := r) h
      rw [this, List.length_append, List.length_cons]
      simp only [List.length_cons, List.length_nil]
      omega
theorem shpsD_ok {b : List UInt8} : ∀ (f : Nat) (S : List Shp) (p : Int) (Z : List Shp), (∀ s ∈ S, ShpOK s) → shpsD b f S p = .ok Z → ∀ s ∈ Z, ShpOK s
  | f, S, p, Z, hS, h => by
    unfold shpsD at h
    by_cases hp : ¬ p < b.length
    · rw [if_pos hp] at h
      injection h with h
      subst h
      exact hS
    · rw [if_neg hp] at h
      cases f with
      | zero => cases h
      | succ f =>
        simp only at h
        rcases h1 : abbD b p with er | ⟨s, q⟩
        · rw [h1] at h; cases h
        · rw [h1] at h
          refine shpsD_ok f (S ++ [s]) q Z (fun x hx => ?_) h
          rcases List.mem_append.1 hx with hx | hx
          · exact hS x hx
          · simp only [List.mem_singleton] at hx
            subst hx
            exact (abbD_ok h1).1
theorem treeD_small {S : List Shp} (hS : ∀ s ∈ S, ShpOK s) {b : List UInt8} : ∀ (f : Nat) (l : List Ent) (d : Int) (ch : Bool) (p : Int) (m : List Ent) (q : Int), l.length ≤ 4000 → (∀ e ∈ l, e.attrs.length ≤ 12) → treeD S b f l d ch p = .ok (m, q) → m.length ≤ 4000 ∧ ∀ e ∈ m, e.attrs.length ≤ 12
  | 0, l, d, ch, p, m, q, _, _, h => by unfold treeD at h; cases h
  | f + 1, l, d, ch, p, m, q, h1, h2, h => by
    unfold treeD at h
    split at h
    · cases h
    · split at h
      · split at h
        · cases h
        · split at h
          · injection h with h
            injection h with h3 h4
            subst h3
            exact ⟨h1, h2⟩
          · exact treeD_small hS f l _ ch _ m q h1 h2 h
      · split at h
        · cases h
        · rename_i s hs
          split at h
          · cases h
          · rename_i hlim
            split at h
            · cases h
            · rename_i vs q2 hv
              have hl2 : (l ++ [(⟨d, s.tag, vs⟩ : Ent)]).length ≤ 4000 := by rw [List.length_append]; simp only [List.length_cons, List.length_nil]; omega
              have ha2 : ∀ e ∈ l ++ [(⟨d, s.tag, vs⟩ : Ent)], e.attrs.length ≤ 12 := fun e he => by
                rcases List.mem_append.1 he with he | he
                · exact h2 e he
                · simp only [List.mem_singleton] at he
                  subst he
                  have e1 := valsD_len hv
                  have e2 := (hS s (List.mem_of_getElem? hs)).1
                  simp only [List.length_nil] at e1
                  simp only
                  omega
              generalize (if s.kids = true then d + 1 else d) = d2 at h
              split at h
              · injection h with h
                injection h with h3 h4
                subst h3
                exact ⟨hl2, ha2⟩
              · exact treeD_small hS f _ _ _ _ m q hl2 ha2 h
theorem decD_small {a b : List UInt8} {l : List Ent} (h : decD a b = .ok l) : l.length ≤ 4000 ∧ ∀ e ∈ l, e.attrs.length ≤ 12 := by
  unfold decD at h
  split at h
  · cases h
  · rcases h1 : shpsD a 200 [] 0 with e | S
    · rw [h1] at h; cases h
    · rw [h1] at h
      simp only at h
      rcases h2 : treeD S b (b.length + 1) [] 0 false 0 with e | ⟨m, q⟩
      · rw [h2] at h; cases h
      · rw [h2] at h
        simp only at h
        split at h
        · cases h
        · injection h with h
          subst h
          exact treeD_small (shpsD_ok 200 [] 0 S (by simp) h1) _ [] 0 false 0 m q (by simp) (by simp) h2
set_option maxHeartbeats 40000000 in
set_option maxRecDepth 100000 in
theorem decodes21_any (x y : Value) (a b : List UInt8) (w : World) (hx : InB w x a) (hy : InB w y b) (hla : a.length ≤ 1000000) (hlb : b.length ≤ 1000000) : Calls Try.prog 15 #[x, y] w (OneOf (.bool true) w) := by
  obtain ⟨A, c, rfl, _, _⟩ := id hx
  obtain ⟨B, d, rfl, _, _⟩ := id hy
  have HX := Lib.hid hx
  have HY := Lib.hid hy
  have hd1 := EDecode_any _ _ a b w hx hy hla hlb
  obtain ⟨n0, hn0⟩ : ∃ n, n = a.length := ⟨_, rfl⟩
  obtain ⟨m0, hm0⟩ : ∃ n, n = b.length := ⟨_, rfl⟩
  have HLA := Lib.hid hla
  have HLB := Lib.hid hlb
  rw [← hn0] at HX hd1 ⊢
  rw [← hm0] at HY hd1 ⊢
  clear hx hy hla hlb hn0 hm0
  go_enter Try.func15, Try.ntmps15
  go_wp2_with fail
  rcases hdf : decD a b with er | l
  · rw [hdf] at hd1
    refine hd1.mono ?_
    rintro en w2 ⟨rfl, hx2⟩
    have hd2 := refDecode21_any _ _ a b w2 (HX.out.ext hx2) (HY.out.ext hx2) HLA.out HLB.out
    rw [decS21_eq, hdf] at hd2
    clear hd1
    go_wp2_with fail
    refine hd2.mono ?_
    rintro en w3 ⟨rfl, hx3⟩
    clear hd2
    go_wp2_with fail
    refine (entriesSelf_any _ _ [] w3 (EOwn.nil 0 _).in_ (EOwn.nil 0 _).in_ (by simp) (by simp)).mono ?_
    rintro en w4 ⟨rfl, hx4⟩
    have he : (er == er) = true := by simp
    have he' : decide (er = er) = true := by simp
    go_wp2_with fail
    go_ret
    exact ⟨rfl, (hx2.trans hx3).trans hx4⟩
  · rw [hdf] at hd1
    have HR := Lib.hid (decD_small hdf)
    refine hd1.mono ?_
    rintro en w2 ⟨⟨y1, rfl, ho1⟩, hx2⟩
    have hd2 := refDecode21_any _ _ a b w2 (HX.out.ext hx2) (HY.out.ext hx2) HLA.out HLB.out
    rw [decS21_eq, hdf] at hd2
    clear hd1
    go_wp2_with fail
    refine hd2.mono ?_
    rintro en w3 ⟨⟨y2, rfl, ho2⟩, hx3⟩
    clear hd2
    go_wp2_with fail
    refine (entriesSelf_any _ _ l w3 (ho1.in_.ext hx3) ho2.in_ (by have := HR.out.1; omega) (fun t ht => by have := HR.out.2 t ht; omega)).mono ?_
    rintro en w4 ⟨rfl, hx4⟩
    go_wp2_with fail
    go_ret
    exact ⟨rfl, (hx2.trans hx3).trans hx4⟩
theorem InV.pre21 {α : Type} {f : α → Value} {w : World} {A : Option Addr} {n c : Nat} {l : List α} (h : InV f w (.slice A n c) l) (m : Nat) (hm : m ≤ l.length) : InV f w (.slice A m c) (l.take m) := by
  obtain ⟨A', c', e, hc, hr⟩ := h
  cases e
  have hlt : (l.take m).length = m := by simp; omega
  exact ⟨A, c, by rw [hlt], by omega, by rw [List.map_take]; exact hr.take _⟩
theorem TG.bytes {t : List Ent} (h : TG t) (hl : t.length ≤ 31) : 1 ≤ (EncE t).1.length ∧ 1 ≤ (EncE t).2.length := by
  obtain ⟨ch, hc⟩ := h.root
  have e0 : encL t ([], []) = encL ch (stepE ⟨0, 1, []⟩ (headD ch) ([], [])) := by rw [hc]; rfl
  have hsl := shpL_len t 0
  have hf1 := fold_len (shpL t 0) []
  have hf2 := fold_flat (shpL t 0) [] (shpL_270 t 0 h.okAtts)
  have hE := EncE_few h (by omega) rfl (by rw [hsl] at hf1; simp only [List.length_nil] at hf1; omega) (by rw [hsl] at hf2; simp only [List.flatten_nil, List.length_nil] at hf2; omega)
  rw [hE]
  have hs1 : ∀ (e : Ent) (k : Bool), 1 ≤ e.tag → 1 ≤ (shapeB e k).length := fun e k he => by
    have h1 := uintB_pos (show 0 ≤ e.tag by omega)
    have e2 : shapeB e k = uintB e.tag ++ numB ((if k then 1 else 0) :: (e.attrs.length : Int) :: attsN e.attrs) := rfl
    rw [e2, List.length_append]
    omega
  refine ⟨?_, ?_⟩
  · simp only
    obtain ⟨c, hc2⟩ := fold_pre (shpL ch 0) (addS [] (shapeB ⟨0, 1, []⟩ (decide ((0 : Int) < nextD ch 0))))
    have e3 : (shpL t 0).foldl addS [] = addS [] (shapeB ⟨0, 1, []⟩ (decide ((0 : Int) < nextD ch 0))) ++ c := by
      rw [hc, shpL, List.foldl_cons, hc2]
    have e4 : addS [] (shapeB ⟨0, 1, []⟩ (decide ((0 : Int) < nextD ch 0))) = [shapeB ⟨0, 1, []⟩ (decide ((0 : Int) < nextD ch 0))] := by simp [addS]
    rw [e3, e4, List.flatten_append, List.length_append]
    have := hs1 ⟨0, 1, []⟩ (decide ((0 : Int) < nextD ch 0)) (by simp)
    simp only [List.flatten_cons, List.flatten_nil, List.append_nil]
    omega
  · simp only
    rw [hc, bytL, List.length_append]
    unfold entB
    rw [List.length_append]
    have := uintB_pos (show (0 : Int) ≤ ((((shpL (⟨0, 1, []⟩ :: ch) 0).foldl addS []).idxOf (shapeB ⟨0, 1, []⟩ (decide ((0 : Int) < nextD ch 0))) : Nat) : Int) + 1 by omega)
    simp only at this ⊢
    omega
set_option maxHeartbeats 40000000 in
set_option maxRecDepth 600000 in
theorem decodesLaw21_walk (x0 x1 y : Value) (a0 b0 : List UInt8) (nums : List Int) (at_ cut by_ : Int) (w : World) (hx : InB w x0 a0) (hx1 : InB w x1 b0) (hla : a0.length ≤ 9223372036854775807) (hlb : b0.length ≤ 9223372036854775807) (hy : InI w y nums) (hnl : nums.length ≤ 9223372036854775807) (hN : ∀ q ∈ nums, I64 q) (hby : 0 ≤ by_ ∧ by_ ≤ 255) :
    Calls Try.prog 4 #[x0, x1, y, .int .i64 at_, .int .i64 cut, .int .u8 by_] w (OneOf (.bool true) w) := by
  obtain ⟨A0, c0, rfl, hcap0, _⟩ := id hx
  obtain ⟨A1, c1, rfl, hcap1, _⟩ := id hx1
  obtain ⟨AY, cY, rfl, _, _⟩ := id hy
  obtain ⟨n0, hn0⟩ : ∃ n, n = a0.length := ⟨_, rfl⟩
  obtain ⟨n1, hn1⟩ : ∃ n, n = b0.length := ⟨_, rfl⟩
  obtain ⟨nY, hnY⟩ : ∃ n, n = nums.length := ⟨_, rfl⟩
  have HNL := Lib.hid hnl
  have HNI := Lib.hid hN
  rw [← hn0] at hx hla hcap0 ⊢
  rw [← hn1] at hx1 hlb hcap1 ⊢
  rw [← hnY] at hy hnl ⊢
  have HN0 := Lib.hid hn0
  have HN1 := Lib.hid hn1
  have HY := Lib.hid hy
  have HCC : Hid (∃ cc : UInt8, Value.int .u8 by_ = bv cc) := Lib.hid ⟨UInt8.ofNat by_.toNat, by
    show _ = Value.int .u8 ((UInt8.ofNat by_.toNat).toNat : Int)
    have : ((UInt8.ofNat by_.toNat).toNat : Int) = by_ := by simp; omega
    rw [this]⟩
  clear hn0 hn1 hnY hy hN hnl
  go_enter Try.func4, Try.ntmps4
  go_upto_if 20 with fail
  go_cut [0, 20] (fun v _ wx => ∃ (b : List UInt8) (A : Option Addr) (n c : Nat), v = .slice A n c ∧ InB w (.slice A n c) b ∧ Hid (b.length = n) ∧ n ≤ 200 ∧ wx = w)
  case first =>
    by_cases h3 : 200 < n0
    · have d3 : decide ((200 : Int) < (n0 : Int)) = true := by simp; omega
      have hin3 : InB w (.slice A0 200 c0) (a0.take 200) := InV.pre21 hx 200 (by have := HN0.out; omega)
      have HLEN : Hid ((a0.take 200).length = 200) := Lib.hid (by have := HN0.out; simp; omega)
      go_wp2_with fail
      go_meet
      exact ⟨a0.take 200, A0, 200, c0, rfl, hin3, HLEN, by omega, rfl⟩
    · have d3 : decide ((200 : Int) < (n0 : Int)) = false := by simp; omega
      have HLEN : Hid (a0.length = n0) := Lib.hid HN0.out.symm
      go_wp2_with fail
      go_meet
      exact ⟨a0, A0, n0, c0, rfl, hx, HLEN, by omega, rfl⟩
  obtain ⟨a, A, n, c, rfl, ha, HAL, hn2, hwe⟩ := hcut
  subst hwe
  obtain ⟨w, rfl⟩ : ∃ W : World, W = wc := ⟨_, rfl⟩
  clear hx hcap0 hla
  go_upto_if 25 with fail
  go_cut [1, 25] (fun v _ wx => ∃ (b : List UInt8) (A : Option Addr) (n c : Nat), v = .slice A n c ∧ InB w (.slice A n c) b ∧ Hid (b.length = n) ∧ n ≤ 200 ∧ wx = w)
  case first =>
    by_cases h3 : 200 < n1
    · have d3 : decide ((200 : Int) < (n1 : Int)) = true := by simp; omega
      have hin3 : InB w (.slice A1 200 c1) (b0.take 200) := InV.pre21 hx1 200 (by have := HN1.out; omega)
      have HLEN : Hid ((b0.take 200).length = 200) := Lib.hid (by have := HN1.out; simp; omega)
      go_wp2_with fail
      go_meet
      exact ⟨b0.take 200, A1, 200, c1, rfl, hin3, HLEN, by omega, rfl⟩
    · have d3 : decide ((200 : Int) < (n1 : Int)) = false := by simp; omega
      have HLEN : Hid (b0.length = n1) := Lib.hid HN1.out.symm
      go_wp2_with fail
      go_meet
      exact ⟨b0, A1, n1, c1, rfl, hx1, HLEN, by omega, rfl⟩
  obtain ⟨b, B, m, d, rfl, hb, HBL, hm2, hwe⟩ := hcut
  subst hwe
  obtain ⟨w, rfl⟩ : ∃ W : World, W = wc := ⟨_, rfl⟩
  clear hx1 hcap1 hlb
  go_wp2_with fail
  refine (ltree_any _ nums w HY.out HNL.out HNI.out).mono ?_
  rintro en w1 ⟨tv, t, rfl, hT, HTG, htl, hx1⟩
  have hTin := hT.in_
  have hTl : t.length ≤ 9223372036854775807 := by omega
  have HTI := Lib.hid HTG.int
  obtain ⟨he1, he2⟩ := HTG.bytes htl
  obtain ⟨hl1, hl2⟩ := EncE_len t
  clear hT HTG htl
  go_wp2_with fail
  refine (refEncode_any t _ w1 hTin HTI.out hTl).mono ?_
  rintro en w2 ⟨u2, v2, rfl, ho1, ho2, hx2⟩
  have hX := hx1.trans hx2
  have i1 : InB w2 u2 (EncE t).1 := ho1.inV
  have i2 : InB w2 v2 (EncE t).2 := ho2.inV
  generalize EncE t = tt at *
  obtain ⟨bx, by0⟩ := tt
  dsimp only at i1 i2 he1 he2 hl1 hl2
  obtain ⟨U, e1, hu1, hcap1, _⟩ := id i1
  obtain ⟨V, e2, hu2, hcap2, _⟩ := id i2
  obtain ⟨N, hN⟩ : ∃ N, N = bx.length := ⟨_, rfl⟩
  obtain ⟨M, hM⟩ : ∃ N, N = by0.length := ⟨_, rfl⟩
  rw [← hN] at hu1 he1 hl1 hcap1
  rw [← hM] at hu2 he2 hl2 hcap2
  subst hu1 hu2
  have HN := Lib.hid hN
  have HM := Lib.hid hM
  have ia := ha.ext hX
  have ib := hb.ext hX
  have HX2 := Lib.hid hX
  clear ho1 ho2 hTin hx1 hx2 hN hM ha hb hX
  go_upto_region 6 with fail
  -- p
  have hA3 := (Ext.refl w2).alloc (.cells #[] 5)
  go_wp2_with (at_builtin; go_must (refine wpList_appendV elem_u8 (fun _ => rfl) rfl (.tmp 34) (.tmp 35) rfl w2.heap.size _ [] rfl (own_empty w2 #[] rfl).toV _ bx rfl (i1.ext hA3) (by have := HN.out; simp only [List.length_nil]; omega) (by omega) hA3.size (Hold.out ?_)))
  refine Hold.mk fun v3 w3 ho3 hg3 => ?_
  have hX3 : Ext w2 w3 := hg3.ext hA3 (own_empty w2 #[] rfl).toV.ge
  obtain ⟨gp, cp, hv3, hgp1, hgp2⟩ := ho3.form (by have := HN.out; omega)
  rw [← HN.out] at hv3
  subst hv3
  clear hg3 hA3
  -- q
  have hA4 := (Ext.refl w3).alloc (.cells #[] 5)
  have hem := (own_empty w3 #[] rfl).toV
  go_wp2_with (at_builtin; go_must (refine wpList_appendV elem_u8 (fun _ => rfl) rfl (.tmp 37) (.tmp 38) rfl w3.heap.size _ [] rfl hem _ by0 rfl ((i2.ext hX3).ext hA4) (by have := HM.out; simp only [List.length_nil]; omega) (by omega) hA4.size (Hold.out ?_)))
  refine Hold.mk fun v4 w4 ho4 hg4 => ?_
  have hX4 : Ext w3 w4 := hg4.ext hA4 hem.ge
  obtain ⟨gq, cq, hv4, hgq1, hgq2⟩ := ho4.form (by have := HM.out; omega)
  rw [← HM.out] at hv4
  subst hv4
  have ho3 := ho3.ext hX4
  have hne : gp ≠ gq := by omega
  have hXX : Ext w2 w4 := hX3.trans hX4
  have hlq : w2.heap.size ≤ gq := by have := hX3.size; omega
  clear hg4 hA4 hem hX3 hX4
  go_wp2_with fail
  refine (Mod_any at_ (N : Int) w4 (by omega) (by omega)).mono ?_
  rintro en wM ⟨rfl, rfl⟩
  have m0 := Int.emod_nonneg at_ (show (N : Int) ≠ 0 by omega)
  have m1 := Int.emod_lt_of_pos at_ (show (0 : Int) < (N : Int) by omega)
  obtain ⟨mm, hmm⟩ := Int.eq_ofNat_of_zero_le m0
  rw [hmm] at m1 ⊢
  clear hmm m0
  have hmN : mm < bx.length := by have := HN.out; omega
  obtain ⟨hcm, hfm⟩ := ho3.at_ HN.out mm hmN
  obtain ⟨cc, hcc⟩ := HCC.out
  have hput := ho3.put HN.out mm cc
  rw [← hcc] at hput
  obtain ⟨ho5, hg4⟩ := hput
  have hlt4 : gp < w4.heap.size := ho3.lt gp rfl
  clear hcc
  unfold bv at hcm
  generalize (((bx[mm]).toNat : Nat) : Int) = om at hcm
  go_upto_region 8 with fail
  obtain ⟨bp, hby⟩ : ∃ l, l = bx.set mm cc := ⟨_, rfl⟩
  have hbpl : bp.length = N := by rw [hby, List.length_set]; exact HN.out.symm
  rw [← hby] at ho5
  clear hcm hfm m1 hmN hby hlt4
  generalize w4.setCell ⟨gp, mm, none⟩ (.int .u8 by_) = w5 at *
  have ho4 := ho4.kept hg4 (.inr (by simp [Value.ownBlock]; exact fun e => hne e.symm))
  have hXX5 : Ext w2 w5 := hXX.grown hg4 (fun k e => by cases e; exact hgp1)
  clear hg4 hXX ho3
  go_wp2_with fail
  refine (Mod_any at_ (M : Int) w5 (by omega) (by omega)).mono ?_
  rintro en wM ⟨rfl, rfl⟩
  have m0 := Int.emod_nonneg at_ (show (M : Int) ≠ 0 by omega)
  have m1 := Int.emod_lt_of_pos at_ (show (0 : Int) < (M : Int) by omega)
  obtain ⟨mm, hmm⟩ := Int.eq_ofNat_of_zero_le m0
  rw [hmm] at m1 ⊢
  clear hmm m0
  have hmN : mm < by0.length := by have := HM.out; omega
  obtain ⟨hcm, hfm⟩ := ho4.at_ HM.out mm hmN
  obtain ⟨cc, hcc⟩ := HCC.out
  have hput := ho4.put HM.out mm cc
  rw [← hcc] at hput
  obtain ⟨ho6, hg4⟩ := hput
  have hlt4 : gq < w5.heap.size := ho4.lt gq rfl
  clear hcc
  unfold bv at hcm
  generalize (((by0[mm]).toNat : Nat) : Int) = om at hcm
  go_upto_region 9 with fail
  obtain ⟨bq, hby⟩ : ∃ l, l = by0.set mm cc := ⟨_, rfl⟩
  have hbql : bq.length = M := by rw [hby, List.length_set]; exact HM.out.symm
  rw [← hby] at ho6
  clear hcm hfm m1 hmN hby hlt4
  generalize w5.setCell ⟨gq, mm, none⟩ (.int .u8 by_) = w6 at *
  have ho5 := ho5.kept hg4 (.inr (by simp [Value.ownBlock]; exact hne))
  have hX6 : Ext w2 w6 := hXX5.grown hg4 (fun k e => by cases e; exact hlq)
  clear hg4 hXX5 ho4
  have hA7 := (Ext.refl w6).alloc (.cells #[] 5)
  have hem := (own_empty w6 #[] rfl).toV
  have i26 := i2.ext hX6
  have ib6 := ib.ext hX6
  go_wp2_with (at_builtin; go_must (refine wpList_appendV elem_u8 (fun _ => rfl) rfl (.tmp 54) (.tmp 55) rfl w6.heap.size _ [] rfl hem _ by0 rfl (i26.ext hA7) (by have := HM.out; simp only [List.length_nil]; omega) (by omega) hA7.size (Hold.out ?_)))
  refine Hold.mk fun v7 w7 ho7 hg7 => ?_
  have hX7 : Ext w6 w7 := hg7.ext hA7 hem.ge
  have ib7 := ib6.ext hX7
  obtain ⟨z7, d7, hv7, _, _⟩ := ho7.inV
  rw [← HM.out] at hv7
  subst hv7
  clear hA7 hem hg7
  go_wp2_with (at_builtin; go_must (refine wpList_appendV elem_u8 (fun _ => rfl) rfl (.tmp 56) (.tmp 57) rfl w6.heap.size _ by0 rfl ho7 _ b rfl ib7 (by have := HM.out; have := HBL.out; omega) (by omega) hX7.size (Hold.out ?_)))
  refine Hold.mk fun v8 w8 ho8 hg8 => ?_
  have hX8 : Ext w6 w8 := hg8.ext hX7 ho7.ge
  obtain ⟨bm, hbm⟩ : ∃ l, l = by0 ++ b := ⟨_, rfl⟩
  have hml : bm.length ≤ 61000 := by have := HM.out; have := HBL.out; rw [hbm, List.length_append]; omega
  rw [← hbm] at ho8
  have im : InB w8 v8 bm := ho8.inV
  obtain ⟨z8, d8, hv8, _, _⟩ := id im
  obtain ⟨NZ, hNZ⟩ : ∃ m, m = bm.length := ⟨_, rfl⟩
  rw [← hNZ] at hv8
  subst hv8
  have j1 := (i1.ext hX6).ext hX8
  have j2 := (i2.ext hX6).ext hX8
  have ja := (ia.ext hX6).ext hX8
  have jb := (ib.ext hX6).ext hX8
  have jp : InB w8 (.slice (some ⟨gp, 0, none⟩) N cp) bp := (ho5.ext hX8).inV
  have jq : InB w8 (.slice (some ⟨gq, 0, none⟩) M cq) bq := (ho6.ext hX8).inV
  have HE := Lib.hid ((HX2.out.trans hX6).trans hX8)
  have hX := Ext.refl w8
  have hal : a.length ≤ 200 := by rw [HAL.out]; exact hn2
  have hbl : b.length ≤ 200 := by rw [HBL.out]; exact hm2
  have hxl : bx.length ≤ 60000 := by rw [← HN.out]; exact hl1
  have hyl : by0.length ≤ 60000 := by rw [← HM.out]; exact hl2
  have hpl : bp.length ≤ 60000 := by rw [hbpl]; exact hl1
  have hql : bq.length ≤ 60000 := by rw [hbql]; exact hl2
  clear ho7 hX7 ib7 hg8 ho8 hX8 hbm hNZ i1 i2 ia ib i26 ib6 ho5 ho6 hX6 hbpl hbql
  go_wp2_with fail
  refine (decodes21_any _ _ a b w8 (ja.ext hX) (jb.ext hX) (by omega) (by omega)).mono ?_
  rintro en u1 ⟨rfl, hxk⟩
  replace hX := hX.trans hxk
  clear hxk
  go_wp2_with fail
  refine (decodes21_any _ _ bx b u1 (j1.ext hX) (jb.ext hX) (by omega) (by omega)).mono ?_
  rintro en u2 ⟨rfl, hxk⟩
  replace hX := hX.trans hxk
  clear hxk
  go_wp2_with fail
  refine (decodes21_any _ _ bx by0 u2 (j1.ext hX) (j2.ext hX) (by omega) (by omega)).mono ?_
  rintro en u3 ⟨rfl, hxk⟩
  replace hX := hX.trans hxk
  clear hxk
  go_wp2_with fail
  refine (decodes21_any _ _ bp by0 u3 (jp.ext hX) (j2.ext hX) (by omega) (by omega)).mono ?_
  rintro en u4 ⟨rfl, hxk⟩
  replace hX := hX.trans hxk
  clear hxk
  go_wp2_with fail
  refine (decodes21_any _ _ bx bq u4 (j1.ext hX) (jq.ext hX) (by omega) (by omega)).mono ?_
  rintro en u5 ⟨rfl, hxk⟩
  replace hX := hX.trans hxk
  clear hxk
  go_wp2_with fail
  refine (decodes21_any _ _ bx bm u5 (j1.ext hX) (im.ext hX) (by omega) (by omega)).mono ?_
  rintro en u6 ⟨rfl, hxk⟩
  replace hX := hX.trans hxk
  clear hxk
  have hwN : IntKind.i64.wrap ((N : Int) + 1) = (N : Int) + 1 := by rw [IntKind.wrap_i64]; omega
  have hwM : IntKind.i64.wrap ((M : Int) + 1) = (M : Int) + 1 := by rw [IntKind.wrap_i64]; omega
  go_wp2_with fail
  refine (Mod_any cut ((N : Int) + 1) u6 (by omega) (by omega)).mono ?_
  rintro en wM ⟨rfl, rfl⟩
  have m0 := Int.emod_nonneg cut (show (N : Int) + 1 ≠ 0 by omega)
  have m1 := Int.emod_lt_of_pos cut (show (0 : Int) < (N : Int) + 1 by omega)
  obtain ⟨mc, hmc⟩ := Int.eq_ofNat_of_zero_le m0
  rw [hmc] at m1 ⊢
  clear hmc m0 hwN
  have hmcN : mc ≤ N := by omega
  have hmcd : mc ≤ e1 := by omega
  have jc := j1.pre21 mc (by have := HN.out; omega)
  have hcl : (bx.take mc).length ≤ 60000 := by rw [List.length_take]; omega
  clear m1
  go_wp2_with fail
  refine (decodes21_any _ _ (bx.take mc) by0 u6 (jc.ext hX) (j2.ext hX) (by omega) (by omega)).mono ?_
  rintro en u7 ⟨rfl, hxk⟩
  replace hX := hX.trans hxk
  clear hxk
  go_wp2_with fail
  refine (Mod_any cut ((M : Int) + 1) u7 (by omega) (by omega)).mono ?_
  rintro en wM ⟨rfl, rfl⟩
  have m0 := Int.emod_nonneg cut (show (M : Int) + 1 ≠ 0 by omega)
  have m1 := Int.emod_lt_of_pos cut (show (0 : Int) < (M : Int) + 1 by omega)
  obtain ⟨mk, hmk⟩ := Int.eq_ofNat_of_zero_le m0
  rw [hmk] at m1 ⊢
  clear hmk m0 hwM
  have hmkM : mk ≤ M := by omega
  have hmkd : mk ≤ e2 := by omega
  have jk := j2.pre21 mk (by have := HM.out; omega)
  have hkl : (by0.take mk).length ≤ 60000 := by rw [List.length_take]; omega
  clear m1
  go_wp2_with fail
  refine (decodes21_any _ _ bx (by0.take mk) u7 (j1.ext hX) (jk.ext hX) (by omega) (by omega)).mono ?_
  rintro en u8 ⟨rfl, hxk⟩
  replace hX := hX.trans hxk
  clear hxk
  go_wp2_with fail
  refine (known21_any u8).mono ?_
  rintro en u9 ⟨rfl, hx9⟩
  have hXf := HE.out.trans (hX.trans hx9)
  clear hX hx9
  go_wp2_with fail
  go_ret
  exact ⟨rfl, hXf⟩
theorem u8_21 {c : Int} (h : (Lit.int .u8 c).wf = true) : 0 ≤ c ∧ c ≤ 255 := by
  simp [Lit.wf, IntKind.min, IntKind.max, IntKind.bits, IntKind.signed] at h
  omega
end Go.Proofs.Ytopanbcodfkedaa
