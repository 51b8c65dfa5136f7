/- The walk of ref.Decode of law 20. -/
import Derived.Test.YtokmbdeafjmcjaaCfV
import Derived.Test.YtokmbdeafjmcjaaCfX
import Derived.Test.YtokmbdeafjmcjaaCfH
namespace Go.Proofs.Ytokmbdeafjmcjaa
open Go.RowKit
set_option linter.unusedVariables false
set_option linter.unusedSimpArgs false

/-- the box of the table, and the reader -/
structure TC (w : World) (gr g : Nat) (x : Value) (s : RS18) (lo hi : Int) (y z : Value) (W : World) : Prop where
  rd : RBlk gr x s W
  tab : W.heap[g]? = some (.cells #[.int .i64 lo, .int .i64 hi, y, z] 27 (0, 0))
  kept : Kept w.heap.size [gr] w W
  low : w.heap.size ≤ g ∧ gr < w.heap.size
section
variable {w W W' : World} {gr g : Nat} {x : Value} {s s' : RS18} {lo hi lo' hi' : Int} {y z : Value}
theorem TC.ext (h : TC w gr g x s lo hi y z W) (he : Ext W W') : TC w gr g x s lo hi y z W' := ⟨he.heap h.rd, he.heap h.tab, h.kept.trans (Kept.of_ext he h.kept.size), h.low⟩
theorem TC.grown (h : TC w gr g x s lo hi y z W) {row : Option Nat} (hg : W.grownBy W' row) (h4 : some g ≠ row) (hr : some gr ≠ row) (hl : ∀ k, row = some k → w.heap.size ≤ k) : TC w gr g x s lo hi y z W' :=
  ⟨blk_grown h.rd hg hr, blk_grown h.tab hg h4, h.kept.trans (Kept.of_grown hg h.kept.size (fun k e => .inl (hl k e))), h.low⟩
theorem TC.read (h : TC w gr g x s lo hi y z W) (hb : RBlk gr x s' W') (hg : W.grownBy W' (some gr)) : TC w gr g x s' lo hi y z W' :=
  ⟨hb, blk_grown h.tab hg (fun e => by cases e; have := h.low; omega), h.kept.trans (Kept.of_grown hg h.kept.size (fun k e => by cases e; exact .inr (by simp))), h.low⟩
theorem TC.put1 (h : TC w gr g x s lo hi y z W) (v : Int) : TC w gr g x s lo v y z (W.setCell ⟨g, 1, none⟩ (.int .i64 v)) :=
  ⟨blk_grown h.rd (gset W ⟨g, 1, none⟩ _) (fun e => by have h1 := h.low; have h2 : gr = g := (by cases e; rfl); omega), blk_set h.tab 1 _, h.kept.trans (Kept.of_grown (gset W ⟨g, 1, none⟩ _) h.kept.size (fun k e => by cases e; exact .inl h.low.1)), h.low⟩
theorem TC.put2 (h : TC w gr g x s lo hi y z W) (v : Value) : TC w gr g x s lo hi v z (W.setCell ⟨g, 2, none⟩ v) :=
  ⟨blk_grown h.rd (gset W ⟨g, 2, none⟩ _) (fun e => by have h1 := h.low; have h2 : gr = g := (by cases e; rfl); omega), blk_set h.tab 2 v, h.kept.trans (Kept.of_grown (gset W ⟨g, 2, none⟩ _) h.kept.size (fun k e => by cases e; exact .inl h.low.1)), h.low⟩
theorem TC.put3 (h : TC w gr g x s lo hi y z W) (v : Value) : TC w gr g x s lo hi y v (W.setCell ⟨g, 3, none⟩ v) :=
  ⟨blk_grown h.rd (gset W ⟨g, 3, none⟩ _) (fun e => by have h1 := h.low; have h2 : gr = g := (by cases e; rfl); omega), blk_set h.tab 3 v, h.kept.trans (Kept.of_grown (gset W ⟨g, 3, none⟩ _) h.kept.size (fun k e => by cases e; exact .inl h.low.1)), h.low⟩
theorem OwnR.read {α : Type} {f : α → List Value} {k : Nat} {e : TypeId} {b0 : Nat} {v : Value} {l : List α} (h : OwnR f k e b0 W v l) (hb : RBlk gr x s W) (hne : e ≠ 135) (hg : W.grownBy W' (some gr)) : OwnR f k e b0 W' v l :=
  h.kept hg (.inr (h.ne_blk hb hne))
end
theorem Kept.fown3 {b0 gr : Nat} {x : Value} {s : RS18} {w W : World} {v : Value} {l : List FTab} (h : Kept w.heap.size [gr] w W) (ho : FOwn b0 w v l) (hr : RBlk gr x s w) : FOwn b0 W v l := by
  obtain ⟨zs, h1, h2, h3⟩ := ho
  have key : ∀ {α : Type} {f : α → List Value} {k : Nat} {e : TypeId} {v : Value} {l : List α}, e ≠ 135 → OwnR f k e b0 w v l → OwnR f k e b0 W v l := fun hne ho => h.ownR ho (fun i hi => ⟨ho.lt i hi, fun hm => by
    simp only [List.mem_cons, List.not_mem_nil, or_false] at hm
    subst hm
    exact ho.ne_blk hr hne hi⟩)
  exact ⟨zs, h1, key (by decide) h2, fun z hz => ⟨key (by decide) (h3 z hz).1, key (by decide) (h3 z hz).2⟩⟩
theorem FOwn.read {b0 gr : Nat} {x : Value} {s : RS18} {w W : World} {v : Value} {l : List FTab} (ho : FOwn b0 w v l) (hr : RBlk gr x s w) (hg : w.grownBy W (some gr)) : FOwn b0 W v l :=
  Kept.fown3 (Kept.of_grown hg (Nat.le_refl _) (fun k e => by cases e; exact .inr (by simp))) ho hr
set_option maxHeartbeats 40000000 in
set_option maxRecDepth 100000 in
theorem refDecode20_any (x : Value) (b : List UInt8) (w : World) (hx : InB w x b) (hl : b.length ≤ 1000000) : Calls Try.prog 52 #[x] w (DecFPost (decS b) w) := by
  obtain ⟨A, c, rfl, _, _⟩ := id hx
  obtain ⟨n0, hn0⟩ : ∃ n0, n0 = b.length := ⟨_, rfl⟩
  have HL := Lib.hid hl
  have HN0 := Lib.hid hn0
  have HX := Lib.hid hx
  rw [← hn0] at hl ⊢
  clear hx
  go_enter Try.func52, Try.ntmps52
  by_cases h6 : 60000 < n0
  case pos =>
    have d6 : decide ((60000 : Int) < (n0 : Int)) = true := by simp; omega
    have HP : Hid (decS b = .error 5) := Lib.hid (by unfold decS; rw [if_pos (by rw [← hn0]; exact h6)])
    clear hn0
    go_wp2_with fail
    refine bodyPost_ret (by simp [results, Try.results52, go_sem]; rfl) rfl ?_
    rw [HP.out]
    exact ⟨rfl, Ext.refl _⟩
  have d6 : decide ((60000 : Int) < (n0 : Int)) = false := by simp; omega
  have HDS : Hid (decS b = decW b (tabsS b (uintS b ⟨0, 0⟩).1.toNat (limS (uintS b ⟨0, 0⟩)))) := Lib.hid (by unfold decS; rw [if_neg (by rw [← hn0]; exact h6)])
  have hx0 : InB w (.slice A n0 c) b := by have := HX.out; rw [← HN0.out] at this; exact this
  have HX0 := Lib.hid hx0
  clear hn0 h6 HX hx0
  obtain ⟨X, hX⟩ : ∃ X, X = Value.slice A n0 c := ⟨_, rfl⟩
  go_upto_region 4 with fail
  obtain ⟨gr, hgr⟩ : ∃ g, g = w.heap.size := ⟨_, rfl⟩
  have hB : RBlk gr (.slice A n0 c) ⟨0, 0⟩ (w.alloc (.cells #[.slice A n0 c, .int .i64 0, .int .i64 0] 135)) := by rw [hgr]; exact heap_alloc_new w (.cells #[.slice A n0 c, .int .i64 0, .int .i64 0] 135)
  have hE := (Ext.refl w).alloc (.cells #[.slice A n0 c, .int .i64 0, .int .i64 0] 135)
  rw [← hgr]
  have hlow : w.heap.size ≤ gr := by omega
  clear hgr hX
  generalize w.alloc (.cells #[.slice A n0 c, .int .i64 0, .int .i64 0] 135) = w1 at *
  go_wp2_with fail
  refine (rUint_any gr _ b ⟨0, 0⟩ w1 (HX0.out.ext hE) hB HL.out).mono ?_
  rintro en w2 ⟨rfl, hb2, hg2⟩
  have hE2 := hE.grown hg2 (fun k e => by cases e; exact hlow)
  have hur := uintS_range b ⟨0, 0⟩
  obtain ⟨⟨nv, s1⟩, hu⟩ : ∃ u, u = uintS b ⟨0, 0⟩ := ⟨_, rfl⟩
  rw [← hu] at hb2 hur HDS ⊢
  dsimp only at hb2 hur HDS ⊢
  obtain ⟨n, rfl⟩ : ∃ n : Nat, nv = (n : Int) := ⟨nv.toNat, by omega⟩
  rw [Int.toNat_natCast] at HDS
  clear hu hB hE hg2
  have HL1 : ∀ s2, limS ((n : Int), s1) = s2 → Hid (s2.e = 0 → n ≤ 8) := fun s2 h => Lib.hid (fun h0 => by
    unfold limS at h
    simp only at h
    by_cases h8 : (8 : Int) < (n : Int)
    · rw [if_pos h8] at h
      unfold failS at h
      split at h
      · rw [← h] at h0; cases h0
      · rename_i h9
        rw [← h] at h0
        exact absurd h0 h9
    · omega)
  go_upto_if 23 with fail
  go_cut [23] (fun _ wx => ∃ s2, limS ((n : Int), s1) = s2 ∧ RBlk gr (.slice A n0 c) s2 wx ∧ Ext w wx)
  case first =>
    by_cases h8 : 8 < n
    · have d8 : decide ((8 : Int) < (n : Int)) = true := by simp; omega
      have HP : Hid (limS ((n : Int), s1) = failS 5 s1) := Lib.hid (by unfold limS; rw [if_pos (show (8 : Int) < (n : Int) by omega)])
      go_wp2_with fail
      refine (rFail_any gr _ 5 s1 w2 hb2).mono ?_
      rintro en w3 ⟨⟨v3, rfl⟩, hb3, hg3⟩
      go_wp2_with fail
      go_meet
      exact ⟨_, HP.out, hb3, hE2.grown hg3 (fun k e => by cases e; exact hlow)⟩
    · have d8 : decide ((8 : Int) < (n : Int)) = false := by simp; omega
      have HP : Hid (limS ((n : Int), s1) = s1) := Lib.hid (by unfold limS; rw [if_neg (show ¬ (8 : Int) < (n : Int) by omega)])
      go_wp2_with fail
      go_meet
      exact ⟨_, HP.out, hb2, hE2⟩
  obtain ⟨wI, rfl⟩ : ∃ W : World, W = wc := ⟨_, rfl⟩
  clear hb2 hE2
  obtain ⟨s2, hs2, hb2, hE2⟩ := hcut
  have HN8 := HL1 s2 hs2
  rw [hs2] at HDS
  clear HL1 hs2
  go_wp2_with fail
  go_loopw [6, 7] (fun v i wr => ∃ (j : Nat) (l : List FTab) (s : RS18), j ≤ n ∧ i = .int .i64 (j : Int) ∧ Hid (l.length = j ∧ (j ≤ 8)) ∧ Hid (tabsS b n s2 = preS l (tabsS b (n - j) s)) ∧ Hid (∀ t ∈ l, t.I) ∧ Hid (s.e = 0 → n ≤ 8) ∧ RBlk gr (.slice A n0 c) s wr ∧ FOwn w.heap.size wr v l ∧ Ext w wr) (fun _ i _ => n - (intOf i).toNat)
  case atStart => exact ⟨0, [], s2, by omega, rfl, Lib.hid ⟨rfl, by omega⟩, Lib.hid (by rw [preS_nil, Nat.sub_zero]), Lib.hid (by simp), HN8, hb2, FOwn.nil _ _, hE2⟩
  case round =>
    clear hb2 hE2 HN8
    obtain ⟨j, l, s, hj, rfl, HJ, HT, HR, HN8, hrd, hT, hX⟩ := hrel
    obtain ⟨wo, rfl⟩ : ∃ wo : World, wo = wr := ⟨_, rfl⟩
    obtain ⟨k0, k1, k2⟩ := blk3' hrd
    go_upto_region 9 with fail
    go_cut [35] (fun sv wx => ∃ d : Bool, sv = .bool d ∧ (d = true ↔ j < n ∧ s.e = 0) ∧ wx = wo)
    case first =>
      by_cases h1 : j < n
      · have d1 : decide ((j : Int) < (n : Int)) = true := by simp; omega
        by_cases h2 : s.e = 0
        · have e2 : (s.e == 0) = true := by simpa using h2
          have H2 := Lib.hid h2
          clear h2
          go_wp2_with fail
          go_meet
          exact ⟨true, rfl, ⟨fun _ => ⟨by omega, H2.out⟩, fun _ => rfl⟩, rfl⟩
        · have e2 : (s.e == 0) = false := by simpa using h2
          have H2 := Lib.hid h2
          clear h2
          go_wp2_with fail
          go_meet
          exact ⟨false, rfl, ⟨fun h => (by cases h), fun h => absurd h.2 H2.out⟩, rfl⟩
      · have d1 : decide ((j : Int) < (n : Int)) = false := by simp; omega
        go_wp2_with fail
        go_meet
        exact ⟨false, rfl, ⟨fun h => (by cases h), fun h => absurd h.1 (by omega)⟩, rfl⟩
    obtain ⟨d, rfl, hd, hwe⟩ := hcut
    subst hwe
    obtain ⟨wO, rfl⟩ : ∃ W : World, W = wc := ⟨_, rfl⟩
    clear k0 k1 k2
    cases d with
    | true =>
      obtain ⟨hlt, hse⟩ := hd.1 rfl
      have hn8 := HN8.out hse
      have HSN : Hid (n - j = (n - (j + 1)) + 1) := Lib.hid (by omega)
      have HT2 : Hid (tabsS b n s2 = preS (l ++ [(tabS b s).1]) (tabsS b (n - (j + 1)) (tabS b s).2)) := Lib.hid (by
        rw [HT.out, HSN.out]
        conv => lhs; unfold tabsS
        rw [if_neg (by rw [hse]; simp), preS_preS])
      have HTE : Hid (∀ u, u = tabS b s → tabsS b n s2 = preS (l ++ [u.1]) (tabsS b (n - (j + 1)) u.2)) := Lib.hid (fun u hu => by rw [hu]; exact HT2.out)
      clear hd hse HN8 HT HT2 HSN
      go_wp2_with fail
      refine (rSmall_any gr _ b s wO (HX0.out.ext hX) hrd HL.out).mono ?_
      rintro en w2 ⟨rfl, hb2, hg2⟩
      have har := smallS_range b s
      obtain ⟨⟨lo, s3⟩, ha⟩ : ∃ u, u = smallS b s := ⟨_, rfl⟩
      rw [← ha] at hb2 har ⊢
      dsimp only at hb2 har ⊢
      have HA := Lib.hid ha
      have hgl := heap_lt hrd
      have hk2 : Kept wO.heap.size [gr] wO w2 := Kept.of_grown hg2 (Nat.le_refl _) (fun k e => by cases e; exact .inr (by simp))
      clear ha hg2
      obtain ⟨hst, hG, hXG⟩ := box_new (P := Try.prog) w2 27 #[.int .i64 0, .int .i64 0, .slice none 0 0, .slice none 0 0] #[.int .i64 lo, .int .i64 0, .slice none 0 0, .slice none 0 0] ft_size rfl (by simp [Value.oneCell'])
      go_upto_region 12 with first | refine wpList_store_run rfl 27 (.tmp 8) (.tmp 40) rfl _ _ _ rfl rfl hst ?_
      obtain ⟨g8, hg8⟩ : ∃ g, g = w2.heap.size := ⟨_, rfl⟩
      have hl8 : wO.heap.size ≤ g8 := by rw [hg8]; exact hk2.size
      rw [← hg8] at hG hXG ⊢
      generalize (w2.alloc (.cells #[.int .i64 0, .int .i64 0, .slice none 0 0, .slice none 0 0] 27)).setRow g8 #[.int .i64 lo, .int .i64 0, .slice none 0 0, .slice none 0 0] = w3 at *
      have hC3 : TC wO gr g8 (.slice A n0 c) s3 lo 0 (.slice none 0 0) (.slice none 0 0) w3 := ⟨hXG.heap hb2, hG, hk2.trans (Kept.of_ext hXG hk2.size), ⟨hl8, hgl⟩⟩
      have HIN : Hid (∀ W, Kept wO.heap.size [gr] wO W → InB W (.slice A n0 c) b ∧ Ext w W) := Lib.hid (fun W hk => by
        have he : Ext w W := hk.ext hX hX.size (fun i hi => by simp only [List.mem_cons, List.not_mem_nil, or_false] at hi; subst hi; exact hlow)
        exact ⟨HX0.out.ext he, he⟩)
      clear hst hG hXG hb2 hk2 hg8 hl8 hgl
      go_wp2_with fail
      refine (rSmall_any gr _ b s3 w3 (HIN.out w3 hC3.kept).1 hC3.rd HL.out).mono ?_
      rintro en w4 ⟨rfl, hb4, hg4⟩
      have hcr := smallS_range b s3
      obtain ⟨⟨hi, s4⟩, hc⟩ : ∃ u, u = smallS b s3 := ⟨_, rfl⟩
      rw [← hc] at hb4 hcr ⊢
      dsimp only at hb4 hcr ⊢
      have HC := Lib.hid hc
      have hC4 := hC3.read hb4 hg4
      have f1 := blk_free hC4.tab 1
      have q1 := blk_at hC4.tab 1 _ rfl
      have hlt4 := heap_lt hC4.tab
      clear hc hb4 hg4 hC3
      go_upto_region 13 with fail
      have hC5 := hC4.put1 hi
      clear hC4 f1 q1 hlt4
      generalize w4.setCell ⟨g8, 1, none⟩ (.int .i64 hi) = w5 at *
      obtain ⟨t0, t1, t2, t3⟩ := blkR hC5.tab
      go_wp2_with fail
      refine (rCount_any gr _ b s4 w5 (HIN.out w5 hC5.kept).1 hC5.rd HL.out).mono ?_
      rintro en w6 ⟨rfl, hb6, hg6⟩
      have hnr := countS_range b s4
      obtain ⟨⟨nv, s5⟩, hnn⟩ : ∃ u, u = countS b s4 := ⟨_, rfl⟩
      rw [← hnn] at hb6 hnr ⊢
      dsimp only at hb6 hnr ⊢
      obtain ⟨K, rfl⟩ : ∃ n : Nat, nv = (n : Int) := ⟨nv.toNat, by omega⟩
      have HN := Lib.hid hnn
      have hC6 := hC5.read hb6 hg6
      clear hnn hb6 hg6 hC5 t0 t1 t2 t3
      go_wp2_with fail
      go_loopw [9, 10] (fun li ki wr => ∃ (k : Nat) (ss : List Stp) (last : Int) (s : RS18) (y : Value), k ≤ K ∧ ki = .int .i64 (k : Int) ∧ li = .int .i64 last ∧ Hid (ss.length + k = K) ∧ Hid (stepsS b K lo s5 = preS ss (stepsS b k last s)) ∧ TC wO gr g8 (.slice A n0 c) s lo hi y (.slice none 0 0) wr ∧ OwnR stpCells 2 78 wO.heap.size wr y ss) (fun _ ki _ => (intOf ki).toNat)
      case atStart => exact ⟨K, [], lo, s5, _, by omega, rfl, rfl, Lib.hid (by simp), Lib.hid (by rw [preS_nil]), hC6, OwnR.nil _⟩
      case round =>
        clear hC6
        obtain ⟨k, ss, last, s6, y, hk, rfl, rfl, HK, HS, hTC, hown⟩ := hrel
        obtain ⟨wz, rfl⟩ : ∃ wz : World, wz = wr := ⟨_, rfl⟩
        obtain ⟨AY, cY, hyv, _, _⟩ := hown.inR
        obtain ⟨m2, hm2⟩ : ∃ m, m = ss.length := ⟨_, rfl⟩
        rw [← hm2] at hyv HK
        subst hyv
        have HM2 := Lib.hid hm2
        clear hm2
        obtain ⟨k0, k1, k2⟩ := blk3' hTC.rd
        go_upto_region 15 with fail
        go_cut [56] (fun sv wx => ∃ d : Bool, sv = .bool d ∧ (d = true ↔ 0 < k ∧ s6.e = 0) ∧ wx = wz)
        case first =>
          by_cases h1 : 0 < k
          · have d1 : decide ((0 : Int) < (k : Int)) = true := by simp; omega
            by_cases h2 : s6.e = 0
            · have e2 : (s6.e == 0) = true := by simpa using h2
              have H2 := Lib.hid h2
              clear h2
              go_wp2_with fail
              go_meet
              exact ⟨true, rfl, ⟨fun _ => ⟨by omega, H2.out⟩, fun _ => rfl⟩, rfl⟩
            · have e2 : (s6.e == 0) = false := by simpa using h2
              have H2 := Lib.hid h2
              clear h2
              go_wp2_with fail
              go_meet
              exact ⟨false, rfl, ⟨fun h => (by cases h), fun h => absurd h.2 H2.out⟩, rfl⟩
          · have d1 : decide ((0 : Int) < (k : Int)) = false := by simp; omega
            go_wp2_with fail
            go_meet
            exact ⟨false, rfl, ⟨fun h => (by cases h), fun h => absurd h.1 (by omega)⟩, rfl⟩
        obtain ⟨d, rfl, hd, hwe⟩ := hcut
        subst hwe
        obtain ⟨wZ, rfl⟩ : ∃ W : World, W = wc := ⟨_, rfl⟩
        clear k0 k1 k2
        cases d with
        | true =>
          obtain ⟨hk0, hse⟩ := hd.1 rfl
          obtain ⟨kp, hkp⟩ : ∃ kp, k = kp + 1 := ⟨k - 1, by omega⟩
          have hwk : IntKind.i64.wrap ((k : Int) - 1) = (kp : Int) := by rw [IntKind.wrap_i64]; omega
          have HS2 : Hid (∀ a o ad, a = smallS b s6 → o = smallS b a.2 → IntKind.i64.wrap (last + a.1) = ad → stepsS b K lo s5 = preS (ss ++ [⟨ad, o.1⟩]) (stepsS b kp ad o.2)) := Lib.hid (by
            intro a o ad h1 h2 h3
            subst h2 h1 h3
            rw [HS.out, hkp]
            conv => lhs; unfold stepsS
            rw [if_neg (by rw [hse]; simp), preS_preS])
          have HKP := Lib.hid hkp
          have hkp2 : kp ≤ K := by omega
          clear hd hse HS hkp hk0
          go_wp2_with fail
          refine (rSmall_any gr _ b s6 wZ (HIN.out wZ hTC.kept).1 hTC.rd HL.out).mono ?_
          rintro en w7 ⟨rfl, hb7, hg7⟩
          obtain ⟨⟨a, s7⟩, ha⟩ : ∃ u, u = smallS b s6 := ⟨_, rfl⟩
          rw [← ha] at hb7 ⊢
          dsimp only at hb7 ⊢
          have HA6 := Lib.hid ha
          have hC7 := hTC.read hb7 hg7
          have ho7 := hown.read hTC.rd (by decide) hg7
          obtain ⟨ad, had⟩ : ∃ ad, IntKind.i64.wrap (last + a) = ad := ⟨_, rfl⟩
          have HAD := Lib.hid had
          clear ha hb7 hg7 hTC hown
          obtain ⟨hst, hG, hXG⟩ := box_new (P := Try.prog) w7 78 #[.int .i64 0, .int .i64 0] #[.int .i64 ad, .int .i64 0] sp_size rfl (by simp [Value.oneCell'])
          go_upto_region 18 with first | refine wpList_store_run rfl 78 (.tmp 11) (.tmp 63) rfl _ _ _ rfl rfl hst ?_
          obtain ⟨g11, hg11⟩ : ∃ g, g = w7.heap.size := ⟨_, rfl⟩
          have hn8' : g11 ≠ g8 := by have := heap_lt hC7.tab; omega
          have hnr' : g11 ≠ gr := by have := heap_lt hC7.rd; omega
          have hl11 : wO.heap.size ≤ g11 := by rw [hg11]; exact hC7.kept.size
          have hno : (Value.slice AY m2 cY).ownBlock ≠ some g11 := fun e => by have := ho7.lt g11 e; omega
          rw [← hg11] at hG hXG ⊢
          generalize (w7.alloc (.cells #[.int .i64 0, .int .i64 0] 78)).setRow g11 #[.int .i64 ad, .int .i64 0] = w8 at *
          have hC8 := hC7.ext hXG
          have ho8 := ho7.ext hXG
          clear hst hXG hC7 ho7 had hg11
          go_wp2_with fail
          refine (rSmall_any gr _ b s7 w8 (HIN.out w8 hC8.kept).1 hC8.rd HL.out).mono ?_
          rintro en w9 ⟨rfl, hb9, hg9⟩
          obtain ⟨⟨o, s8⟩, ho⟩ : ∃ u, u = smallS b s7 := ⟨_, rfl⟩
          rw [← ho] at hb9 ⊢
          dsimp only at hb9 ⊢
          have HS3 : Hid (stepsS b K lo s5 = preS (ss ++ [⟨ad, o⟩]) (stepsS b kp ad s8)) := Lib.hid (HS2.out (a, s7) (o, s8) ad HA6.out ho HAD.out)
          have hC9 := hC8.read hb9 hg9
          have ho9 := ho8.read hC8.rd (by decide) hg9
          have hG9 := blk_grown hG hg9 (fun e => hnr' (by cases e; rfl))
          have f1 := blk_free hG9 1
          have q1 := blk_at hG9 1 _ rfl
          have hlt9 := heap_lt hG9
          clear ho hb9 hg9 hC8 ho8 hG HS2 HA6 HAD
          go_upto_region 19 with fail
          have s9 := gset w9 ⟨g11, 1, none⟩ (.int .i64 o)
          have hGa : (w9.setCell ⟨g11, 1, none⟩ (.int .i64 o)).heap[g11]? = some (.cells #[.int .i64 ad, .int .i64 o] 78 (0, 0)) := blk_set hG9 1 _
          have hCa := hC9.grown s9 (fun e => hn8' (by cases e; rfl)) (fun e => hnr' (by cases e; rfl)) (fun k e => by cases e; exact hl11)
          have hoa := ho9.kept s9 (.inr hno)
          clear s9 hG9 hC9 ho9 f1 q1 hlt9
          generalize w9.setCell ⟨g11, 1, none⟩ (.int .i64 o) = wa at *
          obtain ⟨r0, r1⟩ := blk2 hGa
          obtain ⟨t0, t1, t2, t3⟩ := blkR hCa.tab
          have hlds := run_loadAt_blk (P := Try.prog) wa g11 78 78 _ (0, 0) _ hGa Try.underlying78 rfl sp_size
          have hA5 := (Ext.refl wa).alloc (.cells #[.int .i64 ad, .int .i64 o] 78)
          have hin5 : InR stpCells (wa.alloc (.cells #[.int .i64 ad, .int .i64 o] 78)) (.slice (some ⟨wa.heap.size, 0, none⟩) 1 1) [⟨ad, o⟩] := (OwnR_one (f := stpCells) wa ⟨ad, o⟩ rfl 78).inR
          have hsz5 : wO.heap.size ≤ (wa.alloc (.cells #[.int .i64 ad, .int .i64 o] 78)).heap.size := Nat.le_trans hCa.kept.size hA5.size
          have ho5 := hoa.ext hA5
          have hnr8 : K ≤ 8000 := by omega
          go_upto_region 20 with fail
          go_wp2_with first | refine wpList_load_run rfl 78 (.tmp 11) rfl _ _ rfl hlds ?_ | refine wpList_rowOne elem_sp rfl (.tmp 71) rfl #[.int .i64 ad, .int .i64 o] rfl rfl (by omega) ?_ | (at_builtin; go_must (refine wpList_appendR elem_sp rfl (.tmp 70) (.tmp 72) rfl wO.heap.size _ ss rfl ho5 _ [⟨ad, o⟩] rfl hin5 (fun _ _ => rfl) (fun b hb u hu => by simp only [List.mem_singleton] at hb; subst hb; simp only [stpCells, List.mem_cons, List.not_mem_nil, or_false] at hu; rcases hu with rfl | rfl <;> rfl) (by have := HK.out; have := HM2.out; simp only [List.length_cons, List.length_nil]; omega) (by omega) hsz5 (Hold.out ?_)))
          refine Hold.mk fun v9 w9 ho9 hg9 => ?_
          have hC5 := hCa.ext hA5
          have hC9 := hC5.grown hg9.grown (ho5.ne_blk hC5.tab (by decide)).symm (ho5.ne_blk hC5.rd (by decide)).symm ho5.ge
          obtain ⟨A9, c9, hv9, _, _⟩ := ho9.inR
          obtain ⟨m9, hm9⟩ : ∃ m, m = (ss ++ [(⟨ad, o⟩ : Stp)]).length := ⟨_, rfl⟩
          rw [← hm9] at hv9
          subst hv9
          have HK9 : Hid ((ss ++ [(⟨ad, o⟩ : Stp)]).length + kp = K) := Lib.hid (by have := HK.out; have := HM2.out; have := HKP.out; rw [List.length_append]; simp only [List.length_cons, List.length_nil]; omega)
          have f2 := blk_free hC9.tab 2
          have u2 := blk_at hC9.tab 2 _ rfl
          have hlt9 := heap_lt hC9.tab
          clear hlds hA5 hin5 hsz5 ho5 hC5 hCa hoa hg9 r0 r1 t0 t1 t2 t3 hGa hm9
          go_upto_region 16 with fail
          have hCn := hC9.put2 (.slice A9 m9 c9)
          have hon := ho9.kept (gset w9 ⟨g8, 2, none⟩ (.slice A9 m9 c9)) (.inr (ho9.ne_blk hC9.tab (by decide)))
          clear hC9 ho9 f2 u2 hlt9
          generalize w9.setCell ⟨g8, 2, none⟩ (.slice A9 m9 c9) = wn at *
          go_wp2_with fail
          go_roundw
          case rel => exact ⟨kp, ss ++ [⟨ad, o⟩], ad, s8, _, hkp2, by first | (with_reducible rfl) | go_num, rfl, HK9, HS3, hCn, hon⟩
          case measure => have := HKP.out; simp [intOf]; omega
        | false =>
          have HSS : Hid (stepsS b K lo s5 = (ss, s6)) := Lib.hid (by
            rw [HS.out, stepsS_end]
            · simp [preS]
            · by_cases h0 : k = 0
              · exact .inl h0
              · refine .inr (fun h2 => ?_)
                have := hd.2 ⟨by omega, h2⟩
                cases this)
          clear hd HS
          go_wp2_with fail
          refine (rCount_any gr _ b s6 wZ (HIN.out wZ hTC.kept).1 hTC.rd HL.out).mono ?_
          rintro en w7 ⟨rfl, hb7, hg7⟩
          have hmr := countS_range b s6
          obtain ⟨⟨mv, s7⟩, hmm⟩ : ∃ u, u = countS b s6 := ⟨_, rfl⟩
          rw [← hmm] at hb7 hmr ⊢
          dsimp only at hb7 hmr ⊢
          obtain ⟨M, rfl⟩ : ∃ n : Nat, mv = (n : Int) := ⟨mv.toNat, by omega⟩
          have HM := Lib.hid hmm
          have hC7 := hTC.read hb7 hg7
          have ho7 := hown.read hTC.rd (by decide) hg7
          clear hmm hb7 hg7 hTC hown
          go_wp2_with fail
          go_loopw [12] (fun ki wr => ∃ (k : Nat) (os : List Obj) (s : RS18) (z : Value), k ≤ M ∧ ki = .int .i64 (k : Int) ∧ Hid (os.length + k = M) ∧ Hid (objsS b M s7 = preS os (objsS b k s)) ∧ TC wO gr g8 (.slice A n0 c) s lo hi (.slice AY m2 cY) z wr ∧ OwnR stpCells 2 78 wO.heap.size wr (.slice AY m2 cY) ss ∧ OwnR objCells 4 83 wO.heap.size wr z os) (fun ki _ => (intOf ki).toNat)
          case atStart => exact ⟨M, [], s7, _, by omega, rfl, Lib.hid (by simp), Lib.hid (by rw [preS_nil]), hC7, ho7, OwnR.nil _⟩
          case round =>
            clear hC7 ho7
            obtain ⟨k', os, s8, z, hk', rfl, HK', HO, hTC, hown, hobj⟩ := hrel
            obtain ⟨wq, rfl⟩ : ∃ wz : World, wz = wr := ⟨_, rfl⟩
            obtain ⟨AZ, cZ, hzv, _, _⟩ := hobj.inR
            obtain ⟨m3, hm3⟩ : ∃ m, m = os.length := ⟨_, rfl⟩
            rw [← hm3] at hzv HK'
            subst hzv
            have HM3 := Lib.hid hm3
            clear hm3
            obtain ⟨k0, k1, k2⟩ := blk3' hTC.rd
            go_upto_region 22 with fail
            go_cut [85] (fun sv wx => ∃ d : Bool, sv = .bool d ∧ (d = true ↔ 0 < k' ∧ s8.e = 0) ∧ wx = wq)
            case first =>
              by_cases h1 : 0 < k'
              · have d1 : decide ((0 : Int) < (k' : Int)) = true := by simp; omega
                by_cases h2 : s8.e = 0
                · have e2 : (s8.e == 0) = true := by simpa using h2
                  have H2 := Lib.hid h2
                  clear h2
                  go_wp2_with fail
                  go_meet
                  exact ⟨true, rfl, ⟨fun _ => ⟨by omega, H2.out⟩, fun _ => rfl⟩, rfl⟩
                · have e2 : (s8.e == 0) = false := by simpa using h2
                  have H2 := Lib.hid h2
                  clear h2
                  go_wp2_with fail
                  go_meet
                  exact ⟨false, rfl, ⟨fun h => (by cases h), fun h => absurd h.2 H2.out⟩, rfl⟩
              · have d1 : decide ((0 : Int) < (k' : Int)) = false := by simp; omega
                go_wp2_with fail
                go_meet
                exact ⟨false, rfl, ⟨fun h => (by cases h), fun h => absurd h.1 (by omega)⟩, rfl⟩
            obtain ⟨d, rfl, hd, hwe⟩ := hcut
            subst hwe
            obtain ⟨wQ, rfl⟩ : ∃ W : World, W = wc := ⟨_, rfl⟩
            clear k0 k1 k2
            cases d with
            | true =>
              obtain ⟨hk0, hse⟩ := hd.1 rfl
              obtain ⟨kp, hkp⟩ : ∃ kp, k' = kp + 1 := ⟨k' - 1, by omega⟩
              have hwk : IntKind.i64.wrap ((k' : Int) - 1) = (kp : Int) := by rw [IntKind.wrap_i64]; omega
              have HO2 : Hid (∀ a e f g, a = smallS b s8 → e = smallS b a.2 → f = smallS b e.2 → g = smallS b f.2 → objsS b M s7 = preS (os ++ [⟨a.1, e.1, f.1, g.1⟩]) (objsS b kp g.2)) := Lib.hid (by
                intro a e f g h1 h2 h3 h4
                subst h4 h3 h2 h1
                rw [HO.out, hkp]
                conv => lhs; unfold objsS
                rw [if_neg (by rw [hse]; simp)]
                simp only [preS_preS])
              have HKP := Lib.hid hkp
              have hkp2 : kp ≤ M := by omega
              clear hd hse HO hkp hk0
              go_wp2_with fail
              refine (rSmall_any gr _ b s8 wQ (HIN.out wQ hTC.kept).1 hTC.rd HL.out).mono ?_
              rintro en w8 ⟨rfl, hb8, hg8⟩
              obtain ⟨⟨oc, s9⟩, ha⟩ : ∃ u, u = smallS b s8 := ⟨_, rfl⟩
              rw [← ha] at hb8 ⊢
              dsimp only at hb8 ⊢
              have HA8 := Lib.hid ha
              have hC8 := hTC.read hb8 hg8
              have ho8 := hown.read hTC.rd (by decide) hg8
              have hp8 := hobj.read hTC.rd (by decide) hg8
              clear ha hb8 hg8 hTC hown hobj
              obtain ⟨hst, hG, hXG⟩ := box_new (P := Try.prog) w8 83 #[.int .i64 0, .int .i64 0, .int .i64 0, .int .i64 0] #[.int .i64 oc, .int .i64 0, .int .i64 0, .int .i64 0] ob_size rfl (by simp [Value.oneCell'])
              go_upto_region 25 with first | refine wpList_store_run rfl 83 (.tmp 13) (.tmp 90) rfl _ _ _ rfl rfl hst ?_
              obtain ⟨g13, hg13⟩ : ∃ g, g = w8.heap.size := ⟨_, rfl⟩
              have hn8' : g13 ≠ g8 := by have := heap_lt hC8.tab; omega
              have hnr' : g13 ≠ gr := by have := heap_lt hC8.rd; omega
              have hl13 : wO.heap.size ≤ g13 := by rw [hg13]; exact hC8.kept.size
              have hno : (Value.slice AY m2 cY).ownBlock ≠ some g13 := fun e => by have := ho8.lt g13 e; omega
              have hno2 : (Value.slice AZ m3 cZ).ownBlock ≠ some g13 := fun e => by have := hp8.lt g13 e; omega
              rw [← hg13] at hG hXG ⊢
              generalize (w8.alloc (.cells #[.int .i64 0, .int .i64 0, .int .i64 0, .int .i64 0] 83)).setRow g13 #[.int .i64 oc, .int .i64 0, .int .i64 0, .int .i64 0] = wb at *
              have hCb := hC8.ext hXG
              have hob := ho8.ext hXG
              have hpb := hp8.ext hXG
              clear hst hXG hC8 ho8 hp8 hg13
              go_wp2_with fail
              refine (rSmall_any gr _ b s9 wb (HIN.out wb hCb.kept).1 hCb.rd HL.out).mono ?_
              rintro en wb1 ⟨rfl, hb9, hg9⟩
              obtain ⟨⟨ov, s10⟩, ho⟩ : ∃ u, u = smallS b s9 := ⟨_, rfl⟩
              rw [← ho] at hb9 ⊢
              dsimp only at hb9 ⊢
              have HB1 := Lib.hid ho
              have hC9 := hCb.read hb9 hg9
              have ho9 := hob.read hCb.rd (by decide) hg9
              have hp9 := hpb.read hCb.rd (by decide) hg9
              have hG9 := blk_grown hG hg9 (fun e => hnr' (by cases e; rfl))
              have f1 := blk_free hG9 1
              have q1 := blk_at hG9 1 _ rfl
              have hlt9 := heap_lt hG9
              clear ho hb9 hg9 hCb hob hpb hG
              go_upto_region 26 with fail
              have s9' := gset wb1 ⟨g13, 1, none⟩ (.int .i64 ov)
              have hG : (wb1.setCell ⟨g13, 1, none⟩ (.int .i64 ov)).heap[g13]? = some (.cells #[.int .i64 oc, .int .i64 ov, .int .i64 0, .int .i64 0] 83 (0, 0)) := blk_set hG9 1 _
              have hCb := hC9.grown s9' (fun e => hn8' (by cases e; rfl)) (fun e => hnr' (by cases e; rfl)) (fun k e => by cases e; exact hl13)
              have hob := ho9.kept s9' (.inr hno)
              have hpb := hp9.kept s9' (.inr hno2)
              clear s9' hG9 hC9 ho9 hp9 f1 q1 hlt9
              generalize wb1.setCell ⟨g13, 1, none⟩ (.int .i64 ov) = wd at *
              go_wp2_with fail
              refine (rSmall_any gr _ b s10 wd (HIN.out wd hCb.kept).1 hCb.rd HL.out).mono ?_
              rintro en wd1 ⟨rfl, hb9, hg9⟩
              obtain ⟨⟨os1, s11⟩, ho⟩ : ∃ u, u = smallS b s10 := ⟨_, rfl⟩
              rw [← ho] at hb9 ⊢
              dsimp only at hb9 ⊢
              have HB2 := Lib.hid ho
              have hC9 := hCb.read hb9 hg9
              have ho9 := hob.read hCb.rd (by decide) hg9
              have hp9 := hpb.read hCb.rd (by decide) hg9
              have hG9 := blk_grown hG hg9 (fun e => hnr' (by cases e; rfl))
              have f1 := blk_free hG9 2
              have q1 := blk_at hG9 2 _ rfl
              have hlt9 := heap_lt hG9
              clear ho hb9 hg9 hCb hob hpb hG
              go_upto_region 27 with fail
              have s9' := gset wd1 ⟨g13, 2, none⟩ (.int .i64 os1)
              have hG : (wd1.setCell ⟨g13, 2, none⟩ (.int .i64 os1)).heap[g13]? = some (.cells #[.int .i64 oc, .int .i64 ov, .int .i64 os1, .int .i64 0] 83 (0, 0)) := blk_set hG9 2 _
              have hCb := hC9.grown s9' (fun e => hn8' (by cases e; rfl)) (fun e => hnr' (by cases e; rfl)) (fun k e => by cases e; exact hl13)
              have hob := ho9.kept s9' (.inr hno)
              have hpb := hp9.kept s9' (.inr hno2)
              clear s9' hG9 hC9 ho9 hp9 f1 q1 hlt9
              generalize wd1.setCell ⟨g13, 2, none⟩ (.int .i64 os1) = we at *
              go_wp2_with fail
              refine (rSmall_any gr _ b s11 we (HIN.out we hCb.kept).1 hCb.rd HL.out).mono ?_
              rintro en we1 ⟨rfl, hb9, hg9⟩
              obtain ⟨⟨ow, s12⟩, ho⟩ : ∃ u, u = smallS b s11 := ⟨_, rfl⟩
              rw [← ho] at hb9 ⊢
              dsimp only at hb9 ⊢
              have HB3 := Lib.hid ho
              have hC9 := hCb.read hb9 hg9
              have ho9 := hob.read hCb.rd (by decide) hg9
              have hp9 := hpb.read hCb.rd (by decide) hg9
              have hG9 := blk_grown hG hg9 (fun e => hnr' (by cases e; rfl))
              have f1 := blk_free hG9 3
              have q1 := blk_at hG9 3 _ rfl
              have hlt9 := heap_lt hG9
              clear ho hb9 hg9 hCb hob hpb hG
              go_upto_region 28 with fail
              have s9' := gset we1 ⟨g13, 3, none⟩ (.int .i64 ow)
              have hG : (we1.setCell ⟨g13, 3, none⟩ (.int .i64 ow)).heap[g13]? = some (.cells #[.int .i64 oc, .int .i64 ov, .int .i64 os1, .int .i64 ow] 83 (0, 0)) := blk_set hG9 3 _
              have hCb := hC9.grown s9' (fun e => hn8' (by cases e; rfl)) (fun e => hnr' (by cases e; rfl)) (fun k e => by cases e; exact hl13)
              have hob := ho9.kept s9' (.inr hno)
              have hpb := hp9.kept s9' (.inr hno2)
              clear s9' hG9 hC9 ho9 hp9 f1 q1 hlt9
              generalize we1.setCell ⟨g13, 3, none⟩ (.int .i64 ow) = wf at *
              have HO3 : Hid (objsS b M s7 = preS (os ++ [⟨oc, ov, os1, ow⟩]) (objsS b kp s12)) := Lib.hid (HO2.out (oc, s9) (ov, s10) (os1, s11) (ow, s12) HA8.out HB1.out HB2.out HB3.out)
              clear HO2 HA8 HB1 HB2 HB3
              obtain ⟨t0, t1, t2, t3⟩ := blkR hCb.tab
              have hlds := run_loadAt_blk (P := Try.prog) wf g13 83 83 _ (0, 0) _ hG Try.underlying83 rfl ob_size
              have hA5 := (Ext.refl wf).alloc (.cells #[.int .i64 oc, .int .i64 ov, .int .i64 os1, .int .i64 ow] 83)
              have hin5 : InR objCells (wf.alloc (.cells #[.int .i64 oc, .int .i64 ov, .int .i64 os1, .int .i64 ow] 83)) (.slice (some ⟨wf.heap.size, 0, none⟩) 1 1) [⟨oc, ov, os1, ow⟩] := (OwnR_one (f := objCells) wf ⟨oc, ov, os1, ow⟩ rfl 83).inR
              have hsz5 : wO.heap.size ≤ (wf.alloc (.cells #[.int .i64 oc, .int .i64 ov, .int .i64 os1, .int .i64 ow] 83)).heap.size := Nat.le_trans hCb.kept.size hA5.size
              have ho5 := hob.ext hA5
              have hp5 := hpb.ext hA5
              have hmr8 : M ≤ 8000 := by omega
              go_wp2_with first | refine wpList_load_run rfl 83 (.tmp 13) rfl _ _ rfl hlds ?_ | refine wpList_rowOne elem_ob rfl (.tmp 102) rfl #[.int .i64 oc, .int .i64 ov, .int .i64 os1, .int .i64 ow] rfl rfl (by omega) ?_ | (at_builtin; go_must (refine wpList_appendR elem_ob rfl (.tmp 101) (.tmp 103) rfl wO.heap.size _ os rfl hp5 _ [⟨oc, ov, os1, ow⟩] rfl hin5 (fun _ _ => rfl) (fun b hb u hu => by simp only [List.mem_singleton] at hb; subst hb; simp only [objCells, List.mem_cons, List.not_mem_nil, or_false] at hu; rcases hu with rfl | rfl | rfl | rfl <;> rfl) (by have := HK'.out; have := HM3.out; simp only [List.length_cons, List.length_nil]; omega) (by omega) hsz5 (Hold.out ?_)))
              refine Hold.mk fun v9 w9 hp9 hg9 => ?_
              have hC5 := hCb.ext hA5
              have hC9 := hC5.grown hg9.grown (hp5.ne_blk hC5.tab (by decide)).symm (hp5.ne_blk hC5.rd (by decide)).symm hp5.ge
              have ho9 := ho5.kept hg9.grown (row_ne ho5 hp5 (by decide))
              obtain ⟨A9, c9, hv9, _, _⟩ := hp9.inR
              obtain ⟨m9, hm9⟩ : ∃ m, m = (os ++ [(⟨oc, ov, os1, ow⟩ : Obj)]).length := ⟨_, rfl⟩
              rw [← hm9] at hv9
              subst hv9
              have HK9 : Hid ((os ++ [(⟨oc, ov, os1, ow⟩ : Obj)]).length + kp = M) := Lib.hid (by have := HK'.out; have := HM3.out; have := HKP.out; rw [List.length_append]; simp only [List.length_cons, List.length_nil]; omega)
              have f2 := blk_free hC9.tab 3
              have u2 := blk_at hC9.tab 3 _ rfl
              have hlt9 := heap_lt hC9.tab
              clear hlds hA5 hin5 hsz5 ho5 hp5 hC5 hCb hob hpb hg9 t0 t1 t2 t3 hG hm9
              go_upto_region 23 with fail
              have hCn := hC9.put3 (.slice A9 m9 c9)
              have hon := ho9.kept (gset w9 ⟨g8, 3, none⟩ (.slice A9 m9 c9)) (.inr (ho9.ne_blk hC9.tab (by decide)))
              have hpn := hp9.kept (gset w9 ⟨g8, 3, none⟩ (.slice A9 m9 c9)) (.inr (hp9.ne_blk hC9.tab (by decide)))
              clear hC9 ho9 hp9 f2 u2 hlt9
              generalize w9.setCell ⟨g8, 3, none⟩ (.slice A9 m9 c9) = wn at *
              go_wp2_with fail
              go_roundw
              case rel => exact ⟨kp, os ++ [⟨oc, ov, os1, ow⟩], s12, _, hkp2, by first | (with_reducible rfl) | go_num, HK9, HO3, hCn, hon, hpn⟩
              case measure => have := HKP.out; simp [intOf]; omega
            | false =>
              have HOS : Hid (objsS b M s7 = (os, s8)) := Lib.hid (by
                rw [HO.out, objsS_end]
                · simp [preS]
                · by_cases h0 : k' = 0
                  · exact .inl h0
                  · refine .inr (fun h2 => ?_)
                    have := hd.2 ⟨by omega, h2⟩
                    cases this)
              obtain ⟨tt, htt⟩ : ∃ tt : FTab, tt = ⟨lo, hi, ss, os⟩ := ⟨_, rfl⟩
              have HTB : Hid (tabsS b n s2 = preS (l ++ [tt]) (tabsS b (n - (j + 1)) s8)) := Lib.hid (HTE.out (tt, s8) (by
                unfold tabS
                simp only [← HA.out, ← HC.out, ← HN.out, Int.toNat_natCast, HSS.out, ← HM.out, HOS.out, htt]))
              have HTI : Hid tt.I := Lib.hid (by
                have h1 := HK.out
                have h2 := HK'.out
                have h3 := HM2.out
                have h4 := HM3.out
                rw [htt]
                exact ⟨by simp only; omega, by simp only; omega, by simp only; omega, by simp only; omega⟩)
              clear hd HO HOS HSS HTE
              obtain ⟨t0, t1, t2, t3⟩ := blkR hTC.tab
              have hTM := Kept.fown3 hTC.kept hT hrd
              obtain ⟨zt, hz1, hz2, hz3⟩ := hTM
              have HZ1 := Lib.hid hz1
              have HZ3 := Lib.hid hz3
              have hzl : zt.length ≤ 8 := by have h1 : zt.length = l.length := by rw [← hz1]; simp
                                             have := HJ.out; omega
              clear hz1 hz3
              have hldt := run_loadAt_blk (P := Try.prog) wQ g8 27 27 _ (0, 0) _ hTC.tab Try.underlying27 rfl ft_size
              have hA5 := (Ext.refl wQ).alloc (.cells #[.int .i64 lo, .int .i64 hi, .slice AY m2 cY, .slice AZ m3 cZ] 27)
              have hin5 : InR ftabCells (wQ.alloc (.cells #[.int .i64 lo, .int .i64 hi, .slice AY m2 cY, .slice AZ m3 cZ] 27)) (.slice (some ⟨wQ.heap.size, 0, none⟩) 1 1) [(tt, .slice AY m2 cY, .slice AZ m3 cZ)] := by
                rw [htt]; exact (OwnR_one (f := ftabCells) wQ (⟨lo, hi, ss, os⟩, .slice AY m2 cY, .slice AZ m3 cZ) rfl 27).inR
              have hXM := (HIN.out wQ hTC.kept).2.trans hA5
              have hsz5 := hXM.size
              have HTT := Lib.hid htt
              clear htt
              go_wp2_with first | refine wpList_load_run rfl 27 (.tmp 8) rfl _ _ rfl hldt ?_ | refine wpList_rowOne elem_ft rfl (.tmp 107) rfl #[.int .i64 lo, .int .i64 hi, .slice AY m2 cY, .slice AZ m3 cZ] rfl rfl (by omega) ?_ | (at_builtin; go_must (refine wpList_appendR elem_ft rfl (.tmp 106) (.tmp 108) rfl w.heap.size _ zt rfl (hz2.ext hA5) _ [(tt, .slice AY m2 cY, .slice AZ m3 cZ)] rfl hin5 (fun _ _ => rfl) (fun b hb u hu => by simp only [List.mem_singleton] at hb; subst hb; simp only [ftabCells, List.mem_cons, List.not_mem_nil, or_false] at hu; rcases hu with rfl | rfl | rfl | rfl <;> rfl) (by simp only [List.length_cons, List.length_nil]; omega) (by omega) hsz5 (Hold.out ?_)))
              refine Hold.mk fun v9 w9 ho9 hg9 => ?_
              have hTn : FOwn w.heap.size w9 v9 (l ++ [tt]) := by
                refine ⟨zt ++ [(tt, .slice AY m2 cY, .slice AZ m3 cZ)], by rw [List.map_append, HZ1.out]; rfl, ho9, fun z hz => ?_⟩
                have hn1' : ∀ (v : Value) (r : List Stp), OwnR stpCells 2 78 w.heap.size (wQ.alloc (.cells #[.int .i64 lo, .int .i64 hi, .slice AY m2 cY, .slice AZ m3 cZ] 27)) v r → OwnR stpCells 2 78 w.heap.size w9 v r := fun v r hzz => hzz.kept hg9.grown (row_ne hzz (hz2.ext hA5) (by decide))
                have hn2' : ∀ (v : Value) (r : List Obj), OwnR objCells 4 83 w.heap.size (wQ.alloc (.cells #[.int .i64 lo, .int .i64 hi, .slice AY m2 cY, .slice AZ m3 cZ] 27)) v r → OwnR objCells 4 83 w.heap.size w9 v r := fun v r hzz => hzz.kept hg9.grown (row_ne hzz (hz2.ext hA5) (by decide))
                rcases List.mem_append.1 hz with hz | hz
                · exact ⟨hn1' _ _ ((HZ3.out z hz).1.ext hA5), hn2' _ _ ((HZ3.out z hz).2.ext hA5)⟩
                · simp only [List.mem_singleton] at hz
                  subst hz
                  rw [HTT.out]
                  exact ⟨hn1' _ _ ((hown.low hX.size).ext hA5), hn2' _ _ ((hobj.low hX.size).ext hA5)⟩
              have hrd9 : RBlk gr (.slice A n0 c) s8 w9 := blk_grown (hA5.heap hTC.rd) hg9.grown ((hz2.ext hA5).ne_blk (hA5.heap hTC.rd) (by decide)).symm
              have hX9 : Ext w w9 := hg9.ext hXM hz2.ge
              have HJ9 : Hid ((l ++ [tt]).length = j + 1 ∧ j + 1 ≤ 8) := Lib.hid ⟨by rw [List.length_append, HJ.out.1]; rfl, by omega⟩
              have HR9 : Hid (∀ t ∈ l ++ [tt], t.I) := Lib.hid (fun s hs => by
                rcases List.mem_append.1 hs with hs | hs
                · exact HR.out s hs
                · simp only [List.mem_singleton] at hs
                  subst hs
                  exact HTI.out)
              have HN9 : Hid (s8.e = 0 → n ≤ 8) := Lib.hid (fun _ => hn8)
              have hwj : IntKind.i64.wrap ((j : Int) + 1) = ((j + 1 : Nat) : Int) := by rw [IntKind.wrap_i64]; omega
              clear hldt hA5 hin5 hXM hsz5 ho9 hg9 hz2 t0 t1 t2 t3 hTC hown hobj hT hrd HTT
              go_wp2_with fail
              go_roundw
              case rel => exact ⟨j + 1, l ++ [tt], s8, by omega, by first | (with_reducible rfl) | go_num, HJ9, HTB, HR9, HN9, hrd9, hTn, hX9⟩
              case measure => simp [intOf]; omega
    | false =>
      have HTS : Hid (decS b = decW b (l, s)) := Lib.hid (by
        rw [HDS.out, HT.out, tabsS_end]
        · simp [preS]
        · by_cases h0 : n - j = 0
          · exact .inl h0
          · refine .inr (fun h2 => ?_)
            have := hd.2 ⟨by omega, h2⟩
            cases this)
      clear hd HT HN8
      obtain ⟨k0, k1, k2⟩ := blk3' hrd
      by_cases hse : s.e = 0
      case neg =>
        have e1 : (s.e == 0) = false := by simpa using hse
        have e2 : (s.e != 0) = true := by simpa using hse
        have HP : Hid (decS b = .error s.e) := Lib.hid (by rw [HTS.out]; exact decW_err rfl hse)
        clear hse
        go_upto_region 35 with fail
        go_quiet (fail)
        go_wp2_with fail
        refine bodyPost_ret (by simp [results, Try.results52, go_sem]; rfl) rfl ?_
        rw [HP.out]
        exact ⟨rfl, (hX).drewN _⟩
      rw [hse] at k2
      have e1 : ((0 : Int) == 0) = true := rfl
      have e2 : ((0 : Int) != 0) = false := rfl
      by_cases hp : s.p < (n0 : Int)
      case pos =>
        have dp : decide (s.p < (n0 : Int)) = true := by simpa using hp
        have HP : Hid (decS b = .error 4) := Lib.hid (by
          rw [HTS.out]
          unfold decW
          simp only [hse]
          rw [if_neg (by simp), if_pos (.inl (by rw [← HN0.out]; exact hp))])
        clear hp
        go_wp2_with fail
        refine (rFail_any gr _ 4 s wO hrd).mono ?_
        rintro en w3 ⟨⟨v3, rfl⟩, hb3, hg3⟩
        have hX3 := hX.grown hg3 (fun k e => by cases e; exact hlow)
        have hf : failS 4 s = ⟨s.p, 4⟩ := by unfold failS; rw [if_pos hse]
        rw [hf] at hb3
        obtain ⟨j0, j1, j2⟩ := blk3' hb3
        dsimp only at j1 j2
        have e3 : ((4 : Int) == 0) = false := rfl
        have e4 : ((4 : Int) != 0) = true := rfl
        clear k0 k1 k2 hf hg3 hse hb3
        go_upto_region 35 with fail
        go_quiet (fail)
        go_wp2_with fail
        refine bodyPost_ret (by simp [results, Try.results52, go_sem]; rfl) rfl ?_
        rw [HP.out]
        exact ⟨rfl, (hX3).drewN _⟩
      have dp : decide (s.p < (n0 : Int)) = false := by simpa using hp
      have HQ : Hid (¬ s.p < (b.length : Int)) := Lib.hid (by rw [← HN0.out]; exact hp)
      have HSE := Lib.hid hse
      have hll : l.length ≤ 9223372036854775807 := by have := HJ.out; omega
      clear hp hse
      go_wp2_with fail
      refine (refRight20_any l _ wO hT.in_ HR.out hll).mono ?_
      rintro en w5 ⟨r, rfl, hr, hx5⟩
      have hX5 := hX.trans hx5
      have hrd5 : RBlk gr (.slice A n0 c) s w5 := hx5.heap hrd
      obtain ⟨j0, j1, j2⟩ := blk3' hrd5
      rw [HSE.out] at j2
      clear k0 k1 k2
      cases r with
      | false =>
        have HP : Hid (decS b = .error 4) := Lib.hid (by
          rw [HTS.out]
          unfold decW
          simp only [HSE.out]
          rw [if_neg (by simp), if_pos (.inr (fun h => by have := hr.2 h; cases this))])
        clear hr
        go_wp2_with fail
        refine (rFail_any gr _ 4 s w5 hrd5).mono ?_
        rintro en w3 ⟨⟨v3, rfl⟩, hb3, hg3⟩
        have hX3 := hX5.grown hg3 (fun k e => by cases e; exact hlow)
        have hf : failS 4 s = ⟨s.p, 4⟩ := by unfold failS; rw [if_pos HSE.out]
        rw [hf] at hb3
        clear j0 j1 j2
        obtain ⟨j0, j1, j2⟩ := blk3' hb3
        dsimp only at j1 j2
        have e4 : ((4 : Int) != 0) = true := rfl
        clear hf hg3 hb3
        go_upto_region 35 with fail
        go_quiet (fail)
        go_wp2_with fail
        refine bodyPost_ret (by simp [results, Try.results52, go_sem]; rfl) rfl ?_
        rw [HP.out]
        exact ⟨rfl, (hX3).drewN _⟩
      | true =>
        have HP : Hid (decS b = .ok l) := Lib.hid (by
          rw [HTS.out]
          unfold decW
          simp only [HSE.out]
          rw [if_neg (by simp), if_neg (fun h => h.elim (fun h1 => by have := HQ.out; omega) (fun h2 => h2 (hr.1 rfl)))])
        clear hr
        go_wp2_with fail
        refine bodyPost_ret (by simp [results, Try.results52, go_sem]; rfl) rfl ?_
        rw [HP.out]
        exact ⟨⟨_, rfl, hT.ext hx5⟩, hX5⟩
end Go.Proofs.Ytokmbdeafjmcjaa
