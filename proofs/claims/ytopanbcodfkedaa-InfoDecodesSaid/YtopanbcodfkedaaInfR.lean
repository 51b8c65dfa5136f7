/- The walk of InfoShapes. -/
import Derived.Test.YtopanbcodfkedaaInfQ
namespace Go.Proofs.Ytopanbcodfkedaa
open Go.RowKit
set_option linter.unusedVariables false
set_option linter.unusedSimpArgs false

theorem run_slice_1 {P : Program} {t e : TypeId} {i : TypeInfo} (ht : P.underlying t = some (.slice e)) (hi : P.info? e = some i) (A : Option Addr) (n c : Nat) (h1 : 1 ≤ n) (h2 : n ≤ c) (w : World) :
    (Instr.slice t (.slice A n c) (some (.int .i64 1)) none none).run P w = .ok (.slice (if c = 1 then A else A.map (·.add i.size)) (n - 1) (c - 1)) w := by
  have h3 : ¬ ((n : Int) < 1) := by omega
  simp [Instr.slice, run_underlying ht, Instr.sliceBounds, Instr.sliceBound, asIntOf, h1, h2, h3, sizeOf, typeInfo, hi]
/-- x[1:] of structs -/
theorem InR.tail {α : Type} {f : α → List Value} {P : Program} {t e : TypeId} {k bytes : Nat} (he : ElemN P t e k bytes) {w : World} {A : Option Addr} {c n : Nat} {l : List α} (hx : InR f w (.slice A n c) l) (hn : n = l.length) (h1 : 1 ≤ n) (hk : ∀ a ∈ l, (f a).length = k) :
    ∃ B d, (∀ W, (Instr.slice t (.slice A n c) (some (.int .i64 1)) none none).run P W = .ok (.slice B (n - 1) d) W) ∧ InR f w (.slice B (n - 1) d) (l.drop 1) := by
  obtain ⟨i, z, hi, _, hs, _⟩ := he.info
  obtain ⟨A', c', e', hc, hr⟩ := hx
  cases e'
  refine ⟨_, _, fun W => run_slice_1 he.slice hi A l.length c h1 hc W, ?_⟩
  cases l with
  | nil => simp at h1
  | cons a l =>
    refine ⟨if c = 1 then A else A.map (·.add i.size), c - 1, by simp, by simp at hc ⊢; omega, ?_⟩
    simp only [List.drop_succ_cons, List.drop_zero]
    by_cases ec : c = 1
    · have : l = [] := by
        simp only [List.length_cons] at hc
        exact List.eq_nil_of_length_eq_zero (by omega)
      subst this
      exact Rd.nil
    · rw [if_neg ec, hs]
      intro j u hu
      obtain ⟨ad, rfl, hcc⟩ := hr (k + j) u (by
        rw [List.flatMap_cons, List.getElem?_append_right (by rw [hk a (by simp)]; omega), hk a (by simp)]
        rw [show k + j - k = j by omega]
        exact hu)
      exact ⟨_, rfl, by rw [add_add]; exact hcc⟩
set_option maxHeartbeats 4000000 in
set_option maxRecDepth 100000 in
theorem ends_any (A : Option Addr) (n c : Nat) (w : World) (hn : n ≤ 1000) : Calls Try.prog 16 #[.slice A n c] w (OneOf (.int .i64 (if n = 1 then 1 else 0)) w) := by
  obtain ⟨r, hr⟩ : ∃ r : Int, r = if n = 1 then 1 else 0 := ⟨_, rfl⟩
  rw [← hr]
  have HE := Lib.hid hr
  clear hr
  go_enter Try.func16, Try.ntmps16
  by_cases h1 : n = 1
  · have d1 : ((n : Int) == 1) = true := by simp; omega
    have d2 : decide ((n : Int) = 1) = true := by simp; omega
    have HR : Hid (r = 1) := Lib.hid (by rw [HE.out]; exact if_pos h1)
    clear h1
    go_wp2_with fail
    go_ret
    rw [HR.out]
    exact ⟨rfl, Ext.refl _⟩
  · have d1 : ((n : Int) == 1) = false := by simp; omega
    have d2 : decide ((n : Int) = 1) = false := by simp; omega
    have HR : Hid (r = 0) := Lib.hid (by rw [HE.out]; exact if_neg h1)
    clear h1
    go_wp2_with fail
    go_ret
    rw [HR.out]
    exact ⟨rfl, Ext.refl _⟩
theorem ent_one {z : Ent × Value} {A : Option Addr} {n c : Nat} (h : z.2 = .slice A n c) : ∀ u ∈ entCells z, u.oneCell' = true := fun u hu => by
  simp only [entCells, List.mem_cons, List.not_mem_nil, or_false] at hu
  rcases hu with rfl | rfl | rfl
  · rfl
  · rfl
  · rw [h]; rfl
set_option maxHeartbeats 40000000 in
set_option maxRecDepth 100000 in
theorem shapesLaw_walk (x : Value) (nums : List Int) (n : Int) (w : World) (hx : InI w x nums) (hnl : nums.length ≤ 9223372036854775807) (hI : ∀ q ∈ nums, I64 q) : Calls Try.prog 5 #[x, .int .i64 n] w (OneOf (.bool true) w) := by
  have HX := Lib.hid hx
  have HI := Lib.hid hI
  obtain ⟨AX, cX, rfl, _, _⟩ := id hx
  obtain ⟨nX, hnX⟩ : ∃ n, n = nums.length := ⟨_, rfl⟩
  have HXL := Lib.hid hnl
  rw [← hnX] at hnl HX ⊢
  clear hx hI hnX
  go_enter Try.func5, Try.ntmps5
  go_wp2_with fail
  refine (ltree_any _ nums w HX.out HXL.out HI.out).mono ?_
  rintro en w1 ⟨y, t, rfl, hT, HTG, htl, hx1⟩
  obtain ⟨ch, hch⟩ := HTG.root
  have hTin := hT.in_
  obtain ⟨A1, c1, hv1⟩ := hTin.form
  obtain ⟨zs, hzs, hown, hrows⟩ := hT
  have hzr := hown.inR
  obtain ⟨nt, hnt⟩ : ∃ n, n = t.length := ⟨_, rfl⟩
  have hzl : nt = zs.length := by rw [hnt, ← hzs, List.length_map]
  have hnt1 : 1 ≤ nt := by rw [hnt, hch]; simp
  rw [← hnt] at hv1 htl
  subst hv1
  have HROWS : Hid (∀ z ∈ zs, OwnR attCells 4 40 w.heap.size w1 z.2 z.1.attrs) := Lib.hid hrows
  have HONE : Hid (∀ z ∈ zs, ∀ u ∈ entCells z, u.oneCell' = true) := Lib.hid (fun z hz => by
    obtain ⟨A, c, e, _⟩ := (hrows z hz).inR
    exact ent_one e)
  obtain ⟨B1, d1, hsl, hin1⟩ := hzr.tail elem_en hzl hnt1 (fun _ _ => rfl)
  have HNT := Lib.hid hnt
  have HZS := Lib.hid hzs
  have HZL := Lib.hid hzl
  have HCH := Lib.hid hch
  have HG := Lib.hid HTG
  have HZR : Hid (InR entCells w1 (.slice A1 nt c1) zs) := Lib.hid hzr
  have HIN1 : Hid (InR entCells w1 (.slice B1 (nt - 1) d1) (zs.drop 1)) := Lib.hid hin1
  have HTIN : Hid (Ents w1 (.slice A1 nt c1) t) := Lib.hid hTin
  obtain ⟨n1, hn1⟩ : ∃ m, nt - 1 = m := ⟨_, rfl⟩
  rw [hn1] at hsl HIN1
  have HN1 := Lib.hid hn1
  clear hrows hzr hin1 hnt hzs hzl hch HTG hTin hown hn1
  obtain ⟨m, hm, hm0⟩ : ∃ m, n % 4 = m ∧ 0 ≤ m ∧ m < 4 := ⟨_, rfl, Int.emod_nonneg _ (by omega), Int.emod_lt_of_pos _ (by omega)⟩
  obtain ⟨kk, hkk⟩ : ∃ kk : Nat, (kk : Int) = 1 + m := ⟨(1 + m).toNat, by omega⟩
  have hwk : IntKind.i64.wrap (1 + m) = (kk : Int) := by rw [IntKind.wrap_i64]; omega
  have hkr : 1 ≤ kk ∧ kk ≤ 4 := by omega
  have HM := Lib.hid hm
  clear hm hkk hm0
  go_wp2_with fail
  refine (Mod_any n 4 w1 (by omega) (by omega)).mono ?_
  rintro en wM ⟨rfl, rfl⟩
  rw [HM.out]
  clear HM
  obtain ⟨wO, rfl⟩ : ∃ W : World, W = w1 := ⟨_, rfl⟩
  have hA := (Ext.refl wO).alloc (.cells #[] 26)
  have hinA := HZR.out.ext hA
  have hszA := hA.size
  go_wp2_with (at_builtin; go_must (refine wpList_appendR elem_en rfl (.tmp 18) (.tmp 19) rfl wO.heap.size _ [] rfl (ownR_empty wO 26) _ zs rfl hinA (fun _ _ => rfl) HONE.out (by have := HZL.out; simp only [List.length_nil]; omega) (by omega) hszA (Hold.out ?_)))
  refine Hold.mk fun v2 w2 ho2 hg2 => ?_
  have hX2 : Ext wO w2 := hg2.ext hA (ownR_empty (f := entCells) (k := 3) wO 26).ge
  clear hg2 hinA hszA hA hwk
  go_wp2_with fail
  go_loopw [7, 8] (fun v i wr => ∃ k : Nat, i = .int .i64 (k : Int) ∧ k ≤ kk ∧ OwnR entCells 3 26 wO.heap.size wr v (zs ++ rep (zs.drop 1) k) ∧ Ext wO wr) (fun _ i _ => kk - (intOf i).toNat)
  case atStart => exact ⟨0, rfl, by omega, by simpa [rep] using ho2, hX2⟩
  case round =>
    clear ho2 hX2
    obtain ⟨k, rfl, hk, ho, hX⟩ := hrel
    obtain ⟨wz, rfl⟩ : ∃ W : World, W = wr := ⟨_, rfl⟩
    by_cases hkk : k < kk
    · have hik : (k : Int) < (kk : Int) := by omega
      have hin := HIN1.out.ext hX
      have hsz := hX.size
      have hlen : (zs ++ rep (zs.drop 1) k).length + (zs.drop 1).length ≤ 1073741824 := by
        have h1 := HZL.out
        rw [List.length_append, rep_len, List.length_drop]
        have : k * (zs.length - 1) ≤ 4 * 30 := Nat.mul_le_mul (by omega) (by omega)
        omega
      have hone : ∀ z ∈ zs.drop 1, ∀ u ∈ entCells z, u.oneCell' = true := fun z hz => HONE.out z (List.mem_of_mem_drop hz)
      obtain ⟨za, hza⟩ : ∃ l, l = zs ++ rep (zs.drop 1) k := ⟨_, rfl⟩
      obtain ⟨zb, hzb⟩ : ∃ l, l = zs.drop 1 := ⟨_, rfl⟩
      have HZN : Hid (za ++ zb = zs ++ rep (zs.drop 1) (k + 1)) := Lib.hid (by rw [hza, hzb, rep_succ', List.append_assoc])
      rw [← hza] at ho hlen
      rw [← hzb] at hin hlen hone
      clear hza hzb
      go_wp2_with (at_builtin; go_must (refine wpList_appendR elem_en rfl (.tmp 26) (.tmp 28) rfl wO.heap.size _ za rfl ho _ zb rfl hin (fun _ _ => rfl) hone hlen (by omega) hsz (Hold.out ?_)))
      refine Hold.mk fun v9 w9 ho9 hg9 => ?_
      have hX9 : Ext wO w9 := hg9.ext hX ho.ge
      rw [HZN.out] at ho9
      clear hg9 ho hin hlen hone hsz hX
      go_wp2_with fail
      go_roundw
      case rel => exact ⟨k + 1, by first | (with_reducible rfl) | go_num, by omega, ho9, hX9⟩
      case measure => simp [intOf]; omega
    · have hik : ¬ (k : Int) < (kk : Int) := by omega
      have hke : k = kk := by omega
      subst hke
      have hXE : Ents wz u7 (t ++ rep ch k) := by
        refine ⟨zs ++ rep (zs.drop 1) k, ?_, ho.inR, fun z hz => ?_⟩
        · rw [List.map_append, rep_map, List.map_drop, HZS.out]
          have := HCH.out
          rw [this]
          rfl
        · have hm : z ∈ zs := by
            rcases List.mem_append.1 hz with hz | hz
            · exact hz
            · exact List.mem_of_mem_drop (rep_mem hz)
          exact ((HROWS.out z hm).ext hX).inR
      have hTE : Ents wz (.slice A1 nt c1) t := HTIN.out.ext hX
      obtain ⟨hG2, hE1, hl1, hl2, hl3, hE2⟩ := shapes_law HG.out (by rw [← HNT.out]; exact htl) HCH.out hkr.1 hkr.2
      obtain ⟨X, hXx⟩ : ∃ X, X = t ++ rep ch k := ⟨_, rfl⟩
      rw [← hXx] at hXE hG2 hE1 hl3 hE2
      rw [← HNT.out] at hE2
      have HGX := Lib.hid hG2
      have HE1 := Lib.hid hE1
      have HE2 := Lib.hid hE2
      have hXl : X.length ≤ 9223372036854775807 := by have := hG2.right.1; omega
      have hTl : t.length ≤ 9223372036854775807 := by rw [← HNT.out]; omega
      clear ho hXx hG2 hE1 hE2 hsl
      obtain ⟨AX2, cX2, hv2⟩ := hXE.form
      obtain ⟨nX2, hnX2⟩ : ∃ n, n = X.length := ⟨_, rfl⟩
      rw [← hnX2] at hv2
      subst hv2
      clear hnX2
      go_wp2_with fail
      refine (Encode_any t _ wz hTE HG.out.int hTl).mono ?_
      rintro en w3 ⟨y3, z3, rfl, hy3, hz3, hx3⟩
      have hXE3 := hXE.ext hx3
      have hX3 := hX.trans hx3
      obtain ⟨B3, e3, hv3, _, _⟩ := id hz3.inV
      obtain ⟨b, hb⟩ : ∃ n, n = (EncE t).2.length := ⟨_, rfl⟩
      rw [← hb] at hv3 hl2
      subst hv3
      have HB := Lib.hid hb
      clear hXE hTE hx3 hX hb
      go_wp2_with fail
      refine (Encode_any X _ w3 hXE3 HGX.out.int hXl).mono ?_
      rintro en w4 ⟨y4, z4, rfl, hy4, hz4, hx4⟩
      have hX4 := hX3.trans hx4
      obtain ⟨B4, e4, hv4, _, _⟩ := id hz4.inV
      obtain ⟨d, hd⟩ : ∃ n, n = (EncE X).2.length := ⟨_, rfl⟩
      rw [← hd] at hv4 hl3
      subst hv4
      have HD := Lib.hid hd
      have hi3 : InB w4 y3 (EncE t).1 := (hy3.ext hx4).inV
      have hi4 : InB w4 y4 (EncE X).1 := hy4.inV
      rw [HE1.out] at hi4
      obtain ⟨ab, hab⟩ : ∃ a, a = (EncE t).1 := ⟨_, rfl⟩
      rw [← hab] at hi3 hi4 hl1
      have habl : ab.length ≤ 4294967296 := by omega
      clear hXE3 hx4 hX3 hd hy3 hy4 hz3 hz4 hab
      obtain ⟨ee, hee⟩ : ∃ e : Int, e = if nt = 1 then 1 else 0 := ⟨_, rfl⟩
      have hel : 0 ≤ ee ∧ ee ≤ 1 := by rw [hee]; split <;> omega
      obtain ⟨s1, hs1⟩ : ∃ s : Int, s = (b : Int) - 2 := ⟨_, rfl⟩
      obtain ⟨s2, hs2⟩ : ∃ s : Int, s = s1 + ee := ⟨_, rfl⟩
      obtain ⟨s3, hs3⟩ : ∃ s : Int, s = (k : Int) * s2 := ⟨_, rfl⟩
      have hs3l : -100 ≤ s3 ∧ s3 ≤ 1000000 := by
        have hk4 : k = 1 ∨ k = 2 ∨ k = 3 ∨ k = 4 := by omega
        rcases hk4 with rfl | rfl | rfl | rfl <;> omega
      have hdd : (d : Int) = (b : Int) + s3 := by
        have := HE2.out
        rw [← HD.out, ← HB.out, ← hee, ← hs1, ← hs2, ← hs3] at this
        exact this
      have hw1 : IntKind.i64.wrap ((b : Int) - 2) = s1 := by rw [IntKind.wrap_i64]; omega
      have hw2 : IntKind.i64.wrap (s1 + ee) = s2 := by rw [IntKind.wrap_i64]; omega
      have hw3 : IntKind.i64.wrap ((k : Int) * s2) = s3 := by rw [← hs3, IntKind.wrap_i64]; omega
      have hw4 : IntKind.i64.wrap ((b : Int) + s3) = (d : Int) := by rw [IntKind.wrap_i64]; omega
      have HEE := Lib.hid hee
      clear hs1 hs2 hs3 hdd hee HE1 HE2
      go_wp2_with fail
      refine (sameList_any _ _ ab ab w4 hi3 hi4 habl habl).mono ?_
      rintro en w6 ⟨rfl, n6, rfl⟩
      have hdt : decide (ab = ab) = true := by simp
      rw [hdt]
      have hX6 := hX4.trans ((Ext.refl w4).drewN n6)
      generalize w4.drewN n6 = w6 at *
      clear hi3 hi4 hdt hX4
      go_wp2_with fail
      refine (ends_any A1 nt c1 w6 (by omega)).mono ?_
      rintro en w7 ⟨rfl, hx7⟩
      rw [← HEE.out]
      have hX7 := hX6.trans hx7
      have hq1 : ((d : Int) == (d : Int)) = true := by simp
      have hq2 : decide ((d : Int) = (d : Int)) = true := by simp
      clear hX6 hx7
      go_wp2_with fail
      refine (known21_any w7).mono ?_
      rintro en w8 ⟨rfl, hx8⟩
      have hX8 := hx1.trans (hX7.trans hx8)
      clear hX7 hx8
      go_wp2_with fail
      go_ret
      exact ⟨rfl, hX8⟩
end Go.Proofs.Ytopanbcodfkedaa
