/- The walk of WatchpointWords. -/
import Derived.Test.YtmabaldbilkcjaaWatchF
import Derived.Test.YtmabaldbilkcjaaRegion2
import Derived.Deep.DeepCutAuto
namespace Go.Proofs.Ytmabaldbilkcjaa
open Go.RowKit
set_option linter.unusedVariables false

/-- the two variables that are filled -/
structure Two (w wr : World) (k0 : Value) (gx gy : Nat) (x1 x2 y1 y2 : Value) (l1 : List Bool) (l2 : List Int) (m1 : List Bool) (m2 : List Int) : Prop where
  bx : wr.heap[gx]? = some (.cells #[k0, .int .i64 0, x1, x2] 25 (0, 0))
  by_ : wr.heap[gy]? = some (.cells #[k0, .int .i64 0, y1, y2] 25 (0, 0))
  ox1 : OwnV Value.bool 4 w.heap.size wr x1 l1
  ox2 : OwnV iv 3 w.heap.size wr x2 l2
  oy1 : OwnV Value.bool 4 w.heap.size wr y1 m1
  oy2 : OwnV iv 3 w.heap.size wr y2 m2
  n1 : y1.ownBlock = none ∨ y1.ownBlock ≠ x1.ownBlock
  n2 : y2.ownBlock = none ∨ y2.ownBlock ≠ x2.ownBlock
  gx_ : w.heap.size ≤ gx
  gy_ : w.heap.size ≤ gy
  ne : gx ≠ gy
  ext : Ext w wr
theorem far_sym {a b : Option Nat} (h : a = none ∨ a ≠ b) : b = none ∨ b ≠ a := by
  by_cases e : b = none
  · exact .inl e
  · refine .inr fun e2 => ?_
    subst e2
    rcases h with h | h
    · exact e h
    · exact h rfl
theorem Two.swap {w wr : World} {k0 : Value} {gx gy : Nat} {x1 x2 y1 y2 : Value} {l1 : List Bool} {l2 : List Int} {m1 : List Bool} {m2 : List Int} (h : Two w wr k0 gx gy x1 x2 y1 y2 l1 l2 m1 m2) : Two w wr k0 gy gx y1 y2 x1 x2 m1 m2 l1 l2 :=
  ⟨h.by_, h.bx, h.oy1, h.oy2, h.ox1, h.ox2, far_sym h.n1, far_sym h.n2, h.gy_, h.gx_, Ne.symm h.ne, h.ext⟩
theorem Two.drew {w wr : World} {k0 : Value} {gx gy : Nat} {x1 x2 y1 y2 : Value} {l1 : List Bool} {l2 : List Int} {m1 : List Bool} {m2 : List Int} (h : Two w wr k0 gx gy x1 x2 y1 y2 l1 l2 m1 m2) : Two w wr.drew k0 gx gy x1 x2 y1 y2 l1 l2 m1 m2 :=
  ⟨h.bx, h.by_, h.ox1, h.ox2, h.oy1, h.oy2, h.n1, h.n2, h.gx_, h.gy_, h.ne, h.ext.drew⟩
theorem Two.drewN {w wr : World} {k0 : Value} {gx gy : Nat} {x1 x2 y1 y2 : Value} {l1 : List Bool} {l2 : List Int} {m1 : List Bool} {m2 : List Int} (h : Two w wr k0 gx gy x1 x2 y1 y2 l1 l2 m1 m2) (n : Nat) : Two w (wr.drewN n) k0 gx gy x1 x2 y1 y2 l1 l2 m1 m2 :=
  ⟨h.bx, h.by_, h.ox1, h.ox2, h.oy1, h.oy2, h.n1, h.n2, h.gx_, h.gy_, h.ne, h.ext.drewN n⟩
theorem own_far {α : Type} {f : α → Value} {e : TypeId} {base : Nat} {w : World} {v x y : Value} {l : List α} {L : Nat} (ho : OwnV f e base w y l) (hl : w.heap.size ≤ L) (h : y.ownBlock = none ∨ y.ownBlock ≠ x.ownBlock) (hv : v.ownBlock = x.ownBlock ∨ ∃ g, v.ownBlock = some g ∧ L ≤ g) : y.ownBlock = none ∨ y.ownBlock ≠ v.ownBlock := by
  rcases hv with e | ⟨g, e, hg⟩
  · rw [e]; exact h
  · refine .inr fun e2 => ?_
    have := ho.lt g (e2.trans e)
    omega
/-- where the variables lie, whatever the appends have done -/
theorem Two.keep {w wo W : World} {k0 : Value} {gx gy : Nat} {x1 x2 y1 y2 : Value} {l1 : List Bool} {l2 : List Int} {m1 : List Bool} {m2 : List Int} (h : Two w wo k0 gx gy x1 x2 y1 y2 l1 l2 m1 m2) (hK : Keep2 x1.ownBlock x2.ownBlock wo.drew W) :
    W.heap[gx]? = some (.cells #[k0, .int .i64 0, x1, x2] 25 (0, 0)) ∧ W.heap[gy]? = some (.cells #[k0, .int .i64 0, y1, y2] 25 (0, 0)) ∧ Ext w W := by
  refine ⟨hK.heap h.bx (fun e => h.ox1.ne_blk h.bx (by decide) e.symm) (fun e => h.ox2.ne_blk h.bx (by decide) e.symm), hK.heap h.by_ (fun e => h.ox1.ne_blk h.by_ (by decide) e.symm) (fun e => h.ox2.ne_blk h.by_ (by decide) e.symm), hK.of_ext h.ext.drew h.ox1.ge h.ox2.ge⟩
theorem Two.adv {w wo W : World} {k0 : Value} {gx gy : Nat} {x1 x2 y1 y2 v1 v2 : Value} {l1 l1' : List Bool} {l2 l2' : List Int} {m1 : List Bool} {m2 : List Int} (h : Two w wo k0 gx gy x1 x2 y1 y2 l1 l2 m1 m2) (hK : Keep2 x1.ownBlock x2.ownBlock wo.drew W)
    (o1 : OwnV Value.bool 4 w.heap.size W v1 l1' ∧ (v1.ownBlock = x1.ownBlock ∨ ∃ g, v1.ownBlock = some g ∧ wo.heap.size ≤ g)) (o2 : OwnV iv 3 w.heap.size W v2 l2' ∧ (v2.ownBlock = x2.ownBlock ∨ ∃ g, v2.ownBlock = some g ∧ wo.heap.size ≤ g)) :
    Two w ((W.setCell ⟨gx, 2, none⟩ v1).setCell ⟨gx, 3, none⟩ v2) k0 gx gy v1 v2 y1 y2 l1' l2' m1 m2 := by
  obtain ⟨hbx, hby, he⟩ := h.keep hK
  have p1 := hK.ownV (show OwnV Value.bool 4 w.heap.size wo.drew y1 m1 from h.oy1) h.n1 (h.oy1.ne h.ox2 (by decide))
  have p2 := hK.ownV (show OwnV iv 3 w.heap.size wo.drew y2 m2 from h.oy2) (h.oy2.ne h.ox1 (by decide)) h.n2
  have f1 := o1.1.ne_blk hbx (by decide)
  have f2 := o2.1.ne_blk hbx (by decide)
  have f3 := p1.ne_blk hbx (by decide)
  have f4 := p2.ne_blk hbx (by decide)
  refine ⟨?_, blk_far (blk_far hby (Ne.symm h.ne) _) (Ne.symm h.ne) _, (o1.1.set_far (p := ⟨gx, 2, none⟩) f1 _).set_far (p := ⟨gx, 3, none⟩) f1 _, (o2.1.set_far (p := ⟨gx, 2, none⟩) f2 _).set_far (p := ⟨gx, 3, none⟩) f2 _, (p1.set_far (p := ⟨gx, 2, none⟩) f3 _).set_far (p := ⟨gx, 3, none⟩) f3 _, (p2.set_far (p := ⟨gx, 2, none⟩) f4 _).set_far (p := ⟨gx, 3, none⟩) f4 _,
    own_far h.oy1 (Nat.le_refl _) h.n1 o1.2, own_far h.oy2 (Nat.le_refl _) h.n2 o2.2, h.gx_, h.gy_, h.ne, (he.setCell (p := ⟨gx, 2, none⟩) h.gx_ _).setCell (p := ⟨gx, 3, none⟩) h.gx_ _⟩
  have := blk_set (blk_set hbx 2 v1) 3 v2
  simpa using this

def kbW (mask : Int) (k : Nat) : Bool := bits .and .i64 (mask / 2 ^ k) 1 == 0
def knW (mask : Int) (k : Nat) : List Bool := (List.range k).map (kbW mask)
theorem knW_succ (mask : Int) (k : Nat) : knW mask (k + 1) = knW mask k ++ [kbW mask k] := by simp [knW, List.range_succ]
theorem knW_len (mask : Int) (k : Nat) : (knW mask k).length = k := by simp [knW]
def chgW (mask : Int) (a b : List Int) : Nat → Bool
  | 0 => false
  | k + 1 => chgW mask a b k || (kbW mask k && a.getD k 0 != b.getD k 0)

theorem stepW_get (b : Dat) (l : List Int) (k i : Nat) : (stepW b l k)[i]? = if i < k ∧ b.known.getD i false = true ∧ i < l.length then some (b.words.getD i 0) else l[i]? := by
  induction k with
  | zero => simp [stepW]
  | succ k ih =>
    rw [stepW]
    by_cases hk : b.known.getD k false = true
    · rw [if_pos hk]
      by_cases e : k = i
      · subst e
        by_cases hl : k < l.length
        · rw [List.getElem?_set_self (by rw [stepW_len]; exact hl), if_pos ⟨by omega, hk, hl⟩]
        · rw [List.getElem?_eq_none (by simp [stepW_len]; omega), if_neg (fun h => hl h.2.2), List.getElem?_eq_none (by omega)]
      · rw [List.getElem?_set_ne e, ih]
        by_cases h : i < k
        · simp only [h, show i < k + 1 by omega]
        · simp only [h, show ¬ i < k + 1 by omega]
    · rw [if_neg hk, ih]
      by_cases e : i = k
      · subst e
        rw [if_neg (by simp), if_neg (fun h => hk h.2.1)]
      · by_cases h : i < k
        · simp only [h, show i < k + 1 by omega]
        · simp only [h, show ¬ i < k + 1 by omega]
theorem stepK_true (b : Dat) (n k : Nat) : stepK b (List.replicate n true) k = List.replicate n true := by
  induction k with
  | zero => rfl
  | succ k ih =>
    rw [stepK, ih]
    split
    · apply List.ext_getElem? 
      intro i
      by_cases e : k = i
      · subst e
        by_cases hl : k < n
        · rw [List.getElem?_set_self (by simpa using hl)]; simp [hl]
        · rw [List.getElem?_eq_none (by simp; omega), List.getElem?_eq_none (by simp; omega)]
      · rw [List.getElem?_set_ne e]
    · rfl
/-- the words that are remembered -/
def wdW (mask : Int) (a b : List Int) (n : Nat) : List Int := stepW ⟨3, 0, knW mask n, b.take n⟩ (a.take n) n
theorem wdW_len (mask : Int) (a b : List Int) (n : Nat) (h : n ≤ a.length) : (wdW mask a b n).length = n := by rw [wdW, stepW_len]; simp; omega
theorem knW_get (mask : Int) (n i : Nat) (h : i < n) : (knW mask n).getD i false = kbW mask i := by simp [knW, List.getD, h]
theorem wdW_get (mask : Int) (a b : List Int) (n i : Nat) (h : i < n) (ha : n ≤ a.length) (hb : n ≤ b.length) : (wdW mask a b n)[i]? = some (if kbW mask i = true then b[i]'(by omega) else a[i]'(by omega)) := by
  rw [wdW, stepW_get]
  show (if i < n ∧ (knW mask n).getD i false = true ∧ i < (a.take n).length then some ((b.take n).getD i 0) else (a.take n)[i]?) = _
  rw [knW_get mask n i h]
  by_cases hk : kbW mask i = true
  · rw [if_pos ⟨h, hk, by simp; omega⟩, if_pos hk]
    simp [List.getD, h, List.getElem?_eq_getElem (show i < b.length by omega)]
  · rw [if_neg (fun x => hk x.2.1), if_neg hk]
    simp [h, List.getElem?_eq_getElem (show i < a.length by omega)]
theorem stepC_chg (mask : Int) (a b : List Int) (n : Nat) (ha : n ≤ a.length) (hb : n ≤ b.length) : ∀ k, k ≤ n → stepC ⟨3, 0, List.replicate n true, a.take n⟩ ⟨3, 0, knW mask n, b.take n⟩ k = chgW mask a b k := by
  intro k
  induction k with
  | zero => intro _; rfl
  | succ k ih =>
    intro hk
    rw [stepC, chgW, ih (by omega)]
    show (chgW mask a b k || ((knW mask n).getD k false && (List.replicate n true).getD k false && (a.take n).getD k 0 != (b.take n).getD k 0)) = _
    rw [knW_get mask n k (by omega)]
    simp [List.getD, show k < n by omega]
theorem words_chk (mask : Int) (a b : List Int) (n : Nat) (ha : n ≤ a.length) (hb : n ≤ b.length) :
    chkD ⟨3, 0, List.replicate n true, a.take n⟩ ⟨3, 0, knW mask n, b.take n⟩ = ⟨3, 0, List.replicate n true, wdW mask a b n⟩ ∧ (chkC ⟨3, 0, List.replicate n true, a.take n⟩ ⟨3, 0, knW mask n, b.take n⟩ ↔ chgW mask a b n = true) := by
  have hal : alikeD ⟨3, 0, List.replicate n true, a.take n⟩ ⟨3, 0, knW mask n, b.take n⟩ := ⟨rfl, rfl, by simp; omega, by simp [knW_len], by simp; omega⟩
  unfold chkD chkC
  rw [if_pos hal, if_pos hal]
  have e : (⟨3, 0, knW mask n, b.take n⟩ : Dat).known.length = n := knW_len mask n
  rw [e, stepC_chg mask a b n ha hb n (Nat.le_refl _)]
  exact ⟨by simp only [stepK_true]; rfl, Iff.rfl⟩

set_option maxHeartbeats 4000000 in
set_option maxRecDepth 100000 in
theorem words_walk (x y : Value) (a b : List Int) (mask : Int) (w : World) (hx : InI w x a) (hy : InI w y b) (ha : a.length ≤ 9223372036854775807) (hb : b.length ≤ 9223372036854775807) :
    Calls Try.prog 5 #[x, y, .int .i64 mask] w fun e w' => e = .returned (.bool true) ∧ Ext w w' := by
  obtain ⟨A1, c1, rfl, _, hr1⟩ := hx
  obtain ⟨A2, c2, rfl, _, hr2⟩ := hy
  go_enter Try.func5, Try.ntmps5
  go_upto_region 1 with fail
  go_cut [7] (fun s7 wx => ∃ N : Nat, s7 = .int .i64 (N : Int) ∧ N ≤ a.length ∧ N ≤ b.length ∧ N ≤ 6 ∧ w = wx)
  case first =>
    by_cases h1 : b.length < a.length
    · by_cases h2 : b.length ≤ 6
      · go_wp2_with fail
        go_meet
        exact ⟨b.length, rfl, by omega, by omega, by omega, rfl⟩
      · go_wp2_with fail
        go_meet
        exact ⟨6, rfl, by omega, by omega, by omega, rfl⟩
    · by_cases h2 : a.length ≤ 6
      · go_wp2_with fail
        go_meet
        exact ⟨a.length, rfl, by omega, by omega, by omega, rfl⟩
      · go_wp2_with fail
        go_meet
        exact ⟨6, rfl, by omega, by omega, by omega, rfl⟩
  case rest =>
    obtain ⟨N, rfl, hNa, hNb, hN6, rfl⟩ := hcut
    go_wp2_with fail
    obtain ⟨wi, hwi⟩ : ∃ wi, wi = (w.alloc (.cells #[.int .i64 3, .int .i64 0, .slice none 0 0, .slice none 0 0] 25)).alloc (.cells #[.int .i64 3, .int .i64 0, .slice none 0 0, .slice none 0 0] 25) := ⟨_, rfl⟩
    have hT0 : Two w wi (.int .i64 3) w.heap.size (w.heap.size + 1) (.slice none 0 0) (.slice none 0 0) (.slice none 0 0) (.slice none 0 0) (List.replicate 0 true) (a.take 0) (knW mask 0) (b.take 0) := by
      subst hwi
      refine ⟨blk_alloc (heap_alloc_new w _) _, ?_, OwnV.nil _, OwnV.nil _, OwnV.nil _, OwnV.nil _, .inl rfl, .inl rfl, Nat.le_refl _, Nat.le_succ _, by omega, ((Ext.refl w).alloc _).alloc _⟩
      have := heap_alloc_new (w.alloc (.cells #[.int .i64 3, .int .i64 0, .slice none 0 0, .slice none 0 0] 25)) (.cells #[.int .i64 3, .int .i64 0, .slice none 0 0, .slice none 0 0] 25)
      simpa using this
    rw [← hwi]
    clear hwi
    generalize hgx : w.heap.size = gx at hT0 ⊢
    have HGX := Lib.hid hgx
    clear hgx
    obtain ⟨gy, hgy⟩ : ∃ gy, gy = gx + 1 := ⟨_, rfl⟩
    rw [← hgy] at hT0 ⊢
    clear hgy
    go_loopw [10, 11] (fun c i wr => ∃ (k : Nat) (x1 x2 y1 y2 : Value), k ≤ N ∧ i = .int .i64 (k : Int) ∧ c = .bool (chgW mask a b k) ∧ Two w wr (.int .i64 3) gx gy x1 x2 y1 y2 (List.replicate k true) (a.take k) (knW mask k) (b.take k)) (fun _ i _ => N - (intOf i).toNat)
    case atStart => exact ⟨0, _, _, _, _, Nat.zero_le _, rfl, rfl, hT0⟩
    case round =>
      clear hT0
      obtain ⟨k, x1, x2, y1, y2, hk, rfl, rfl, hT⟩ := hrel
      obtain ⟨wo, rfl⟩ : ∃ wo : World, wo = wr := ⟨_, rfl⟩
      by_cases hlt : k < N
      · have hka : k < a.length := by omega
        have hkb : k < b.length := by omega
        obtain ⟨b1, o1, rfl, hc1⟩ := hr1.int hka
        obtain ⟨b2, o2, rfl, hc2⟩ := hr2.int hkb
        have HA : Hid (a.take (k + 1) = a.take k ++ [a[k]]) := Lib.hid (List.take_succ_eq_append_getElem hka)
        have HB : Hid (b.take (k + 1) = b.take k ++ [b[k]]) := Lib.hid (List.take_succ_eq_append_getElem hkb)
        have HC : Hid (chgW mask a b (k + 1) = (chgW mask a b k || (kbW mask k && a[k] != b[k]))) := Lib.hid (by simp [chgW, List.getD, List.getElem?_eq_getElem hka, List.getElem?_eq_getElem hkb])
        have hia : (k : Int) < (a.length : Int) := by omega
        have hib : (k : Int) < (b.length : Int) := by omega
        generalize a[k] = ak at *
        generalize b[k] = bk at *
        go_wp2_with fail
        have hkbv : (bits .and .i64 (mask / 2 ^ k) 1 == 0) = kbW mask k := rfl
        rw [hkbv]
        clear hkbv
        generalize hkk : kbW mask k = kb at HC ⊢
        have HK := Lib.hid hkk
        clear hkk
        have hcell : ∀ W, Keep2 x1.ownBlock x2.ownBlock wo.drew W → W.cell? ⟨gx, 2, none⟩ = some x1 ∧ W.cell? ⟨gx, 3, none⟩ = some x2 ∧ W.cell? ⟨b1, o1 + k, none⟩ = some (.int .i64 ak) := fun W hW => by
          obtain ⟨k1, _, k3⟩ := hT.keep hW
          obtain ⟨_, _, q2, q3, _⟩ := blk4 k1
          exact ⟨q2, q3, k3.cell hc1⟩
        have hB1 := hT.ox1.lt
        have hB2 := hT.ox2.lt
        have hbase := hT.ext.size
        refine wp_region_Y (Keep2 x1.ownBlock x2.ownBlock wo.drew) #[true, true, true, true, true, true, true, true, true, true, true, true, true, false, false, false] 13 3 (by kernel_rfl) rfl ?_
        have hS0 : Keep2 x1.ownBlock x2.ownBlock wo.drew wo.drew := Keep2.refl _ _ _
        refine wpY_v 0 (.pointer (some ⟨gx, 2, none⟩)) rfl rfl (by kernel_rfl) (by kernel_rfl) (by kernel_rfl) (fun _ _ _ _ h => h) (by kernel_rfl) rfl (by rfl) hS0 (fun W hW => by
          obtain ⟨q2, q3, q4⟩ := hcell W hW
          clear hcell
          go_simp) ?_
        simp only [List.setIfInBounds_toArray, List.set_cons_zero, List.set_cons_succ]
        refine wpY_v 1 (x1) rfl rfl (by kernel_rfl) (by kernel_rfl) (by kernel_rfl) (fun _ _ _ _ h => h) (by kernel_rfl) rfl (by rfl) hS0 (fun W hW => by
          obtain ⟨q2, q3, q4⟩ := hcell W hW
          clear hcell
          go_simp) ?_
        simp only [List.setIfInBounds_toArray, List.set_cons_zero, List.set_cons_succ]
        refine wpY_v 4 (.pointer (some ⟨gx, 3, none⟩)) rfl rfl (by kernel_rfl) (by kernel_rfl) (by kernel_rfl) (fun _ _ _ _ h => h) (by kernel_rfl) rfl (by rfl) hS0 (fun W hW => by
          obtain ⟨q2, q3, q4⟩ := hcell W hW
          clear hcell
          go_simp) ?_
        simp only [List.setIfInBounds_toArray, List.set_cons_zero, List.set_cons_succ]
        refine wpY_v 5 (x2) rfl rfl (by kernel_rfl) (by kernel_rfl) (by kernel_rfl) (fun _ _ _ _ h => h) (by kernel_rfl) rfl (by rfl) hS0 (fun W hW => by
          obtain ⟨q2, q3, q4⟩ := hcell W hW
          clear hcell
          go_simp) ?_
        simp only [List.setIfInBounds_toArray, List.set_cons_zero, List.set_cons_succ]
        refine wpY_v 6 (.slice (some ⟨b1, o1, none⟩) a.length c1) rfl rfl (by kernel_rfl) (by kernel_rfl) (by kernel_rfl) (fun _ _ _ _ h => h) (by kernel_rfl) rfl (by rfl) hS0 (fun W hW => by
          obtain ⟨q2, q3, q4⟩ := hcell W hW
          clear hcell
          go_simp) ?_
        simp only [List.setIfInBounds_toArray, List.set_cons_zero, List.set_cons_succ]
        refine wpY_v 7 (.int .i64 (k : Int)) rfl rfl (by kernel_rfl) (by kernel_rfl) (by kernel_rfl) (fun _ _ _ _ h => h) (by kernel_rfl) rfl (by rfl) hS0 (fun W hW => by
          obtain ⟨q2, q3, q4⟩ := hcell W hW
          clear hcell
          go_simp) ?_
        simp only [List.setIfInBounds_toArray, List.set_cons_zero, List.set_cons_succ]
        refine wpY_v 8 (.pointer (some ⟨b1, o1 + k, none⟩)) rfl rfl (by kernel_rfl) (by kernel_rfl) (by kernel_rfl) (fun _ _ _ _ h => h) (by kernel_rfl) rfl (by rfl) hS0 (fun W hW => by
          obtain ⟨q2, q3, q4⟩ := hcell W hW
          clear hcell
          go_simp) ?_
        simp only [List.setIfInBounds_toArray, List.set_cons_zero, List.set_cons_succ]
        refine wpY_v 9 (.int .i64 ak) rfl rfl (by kernel_rfl) (by kernel_rfl) (by kernel_rfl) (fun _ _ _ _ h => h) (by kernel_rfl) rfl (by rfl) hS0 (fun W hW => by
          obtain ⟨q2, q3, q4⟩ := hcell W hW
          clear hcell
          go_simp) ?_
        simp only [List.setIfInBounds_toArray, List.set_cons_zero, List.set_cons_succ]
        have ob1 : OwnV Value.bool 4 w.heap.size wo.drew x1 (List.replicate k true) := hT.ox1
        have ob2 : OwnV iv 3 w.heap.size wo.drew x2 (a.take k) := hT.ox2
        refine wpY_inv _ [2, 3, 10, 11, 12] (fun i => match i with | 2 => 37 | 3 => 38 | 10 => 45 | 11 => 46 | _ => 47) (fun i v W => match i with | 2 => OwnV Value.bool 4 w.heap.size W v [true] ∧ (∃ g, v.ownBlock = some g ∧ wo.heap.size ≤ g) | 3 => OwnV Value.bool 4 w.heap.size W v (List.replicate k true ++ [true]) ∧ (v.ownBlock = x1.ownBlock ∨ ∃ g, v.ownBlock = some g ∧ wo.heap.size ≤ g) | 10 => OwnV iv 3 w.heap.size W v [ak] ∧ (∃ g, v.ownBlock = some g ∧ wo.heap.size ≤ g) | 11 => OwnV iv 3 w.heap.size W v (a.take k ++ [ak]) ∧ (v.ownBlock = x2.ownBlock ∨ ∃ g, v.ownBlock = some g ∧ wo.heap.size ≤ g) | _ => v = .pointer (some ⟨gx, 2, none⟩)) (fun i W => match i with | 3 => OwnV Value.bool 4 w.heap.size W x1 (List.replicate k true) | 11 => OwnV iv 3 w.heap.size W x2 (a.take k) | _ => True) 137 (by kernel_rfl) rfl (by decide) rfl ?_ hS0 ?_ ?_
        · intro i hi a W hsN hS hH ha hw
          simp only [List.mem_cons, List.not_mem_nil, or_false] at hi
          have hsz : wo.heap.size ≤ W.heap.size := hS.size
          rcases hi with rfl | rfl | rfl | rfl | rfl
          · refine op_make (v := .slice (some ⟨W.heap.size, 0, none⟩) 1 1) (W' := W.alloc (.cells #[Value.bool true] 4)) rfl rfl (by
              go_simp
              ) ?_
            refine ⟨_, rfl, .inl (by decide), hS.ext ((Ext.refl W).alloc _), ⟨(OwnV_new (f := Value.bool) W true 4).low (by omega), _, rfl, hsz⟩, ?_⟩
            · intro j hj hne
              simp only [List.mem_cons, List.not_mem_nil, or_false] at hj
              rcases hj with rfl | rfl | rfl | rfl | rfl
              · exact ⟨fun u hu => ⟨hu.1.ext ((Ext.refl W).alloc _), hu.2⟩, fun _ => trivial⟩
              · exact ⟨fun u hu => ⟨hu.1.ext ((Ext.refl W).alloc _), hu.2⟩, fun hu => hu.ext ((Ext.refl W).alloc _)⟩
              · exact ⟨fun u hu => ⟨hu.1.ext ((Ext.refl W).alloc _), hu.2⟩, fun _ => trivial⟩
              · exact ⟨fun u hu => ⟨hu.1.ext ((Ext.refl W).alloc _), hu.2⟩, fun hu => hu.ext ((Ext.refl W).alloc _)⟩
              · exact ⟨fun u hu => hu, fun _ => trivial⟩
          · have g1 := hw 2 (by decide) (by kernel_rfl)
            refine op_append elem_bool (fun _ => rfl) rfl rfl (s := .tmp 36) (x := .tmp 37) rfl (show a.eval (.tmp 36) = x1 from (ha 36 rfl).1) rfl (Nat.le_trans hbase hsz) (by first | (simp; omega) | (simp [knW_len]; omega)) (by omega) hH g1.1.inV fun v' W' o1 gr => ?_
            refine ⟨_, rfl, .inl (by decide), hS.one gr.grown, ⟨o1, gr.lies.imp id fun ⟨q, q1, q2⟩ => ⟨q, q1, Nat.le_trans hsz q2⟩⟩, ?_⟩
            intro j hj hne
            simp only [List.mem_cons, List.not_mem_nil, or_false] at hj
            have far : ∀ u : Value, (∃ g, u.ownBlock = some g ∧ wo.heap.size ≤ g) → u.ownBlock ≠ x1.ownBlock := fun u ⟨q, q1, q2⟩ q3 => by
              have := hB1 q (q3.symm.trans q1)
              omega
            rcases hj with rfl | rfl | rfl | rfl | rfl
            · exact ⟨fun u hu => ⟨hu.1.kept gr.grown (.inr (far u hu.2)), hu.2⟩, fun _ => trivial⟩
            · exact absurd rfl hne
            · exact ⟨fun u hu => ⟨hu.1.kept gr.grown (hu.1.ne hH (by decide)), hu.2⟩, fun _ => trivial⟩
            · exact ⟨fun u hu => ⟨hu.1.kept gr.grown (hu.1.ne hH (by decide)), hu.2⟩, fun hu => hu.kept gr.grown (hu.ne hH (by decide))⟩
            · exact ⟨fun u hu => hu, fun _ => trivial⟩
          · refine op_make (v := .slice (some ⟨W.heap.size, 0, none⟩) 1 1) (W' := W.alloc (.cells #[iv ak] 3)) rfl rfl (by
              have e0 : a.tmps[44]?.getD undef = .int .i64 ak := (ha 44 rfl).2
              go_simp; rfl
              ) ?_
            refine ⟨_, rfl, .inl (by decide), hS.ext ((Ext.refl W).alloc _), ⟨(OwnV_new (f := iv) W ak 3).low (by omega), _, rfl, hsz⟩, ?_⟩
            · intro j hj hne
              simp only [List.mem_cons, List.not_mem_nil, or_false] at hj
              rcases hj with rfl | rfl | rfl | rfl | rfl
              · exact ⟨fun u hu => ⟨hu.1.ext ((Ext.refl W).alloc _), hu.2⟩, fun _ => trivial⟩
              · exact ⟨fun u hu => ⟨hu.1.ext ((Ext.refl W).alloc _), hu.2⟩, fun hu => hu.ext ((Ext.refl W).alloc _)⟩
              · exact ⟨fun u hu => ⟨hu.1.ext ((Ext.refl W).alloc _), hu.2⟩, fun _ => trivial⟩
              · exact ⟨fun u hu => ⟨hu.1.ext ((Ext.refl W).alloc _), hu.2⟩, fun hu => hu.ext ((Ext.refl W).alloc _)⟩
              · exact ⟨fun u hu => hu, fun _ => trivial⟩
          · have g1 := hw 10 (by decide) (by kernel_rfl)
            refine op_append elem_int (fun _ => rfl) rfl rfl (s := .tmp 40) (x := .tmp 45) rfl (show a.eval (.tmp 40) = x2 from (ha 40 rfl).1) rfl (Nat.le_trans hbase hsz) (by first | (simp; omega) | (simp [knW_len]; omega)) (by omega) hH g1.1.inV fun v' W' o1 gr => ?_
            refine ⟨_, rfl, .inl (by decide), hS.two gr.grown, ⟨o1, gr.lies.imp id fun ⟨q, q1, q2⟩ => ⟨q, q1, Nat.le_trans hsz q2⟩⟩, ?_⟩
            intro j hj hne
            simp only [List.mem_cons, List.not_mem_nil, or_false] at hj
            have far : ∀ u : Value, (∃ g, u.ownBlock = some g ∧ wo.heap.size ≤ g) → u.ownBlock ≠ x2.ownBlock := fun u ⟨q, q1, q2⟩ q3 => by
              have := hB2 q (q3.symm.trans q1)
              omega
            rcases hj with rfl | rfl | rfl | rfl | rfl
            · exact ⟨fun u hu => ⟨hu.1.kept gr.grown (hu.1.ne hH (by decide)), hu.2⟩, fun _ => trivial⟩
            · exact ⟨fun u hu => ⟨hu.1.kept gr.grown (hu.1.ne hH (by decide)), hu.2⟩, fun hu => hu.kept gr.grown (hu.ne hH (by decide))⟩
            · exact ⟨fun u hu => ⟨hu.1.kept gr.grown (.inr (far u hu.2)), hu.2⟩, fun _ => trivial⟩
            · exact absurd rfl hne
            · exact ⟨fun u hu => hu, fun _ => trivial⟩
          · refine op_make (v := .pointer (some ⟨gx, 2, none⟩)) (W' := W) rfl rfl (by
              have e0 : a.tmps[8]?.getD undef = .pointer (some ⟨gx, 0, none⟩) := (ha 8 rfl).2
              go_simp) ?_
            refine ⟨_, rfl, .inl (by decide), hS, rfl, fun j hj hne => ⟨fun u hu => hu, fun hu => hu⟩⟩
        · intro i hi
          simp only [List.mem_cons, List.not_mem_nil, or_false] at hi
          rcases hi with rfl | rfl | rfl | rfl | rfl
          · trivial
          · exact ob1
          · trivial
          · exact ob2
          · trivial
        intro xs W hS hG
        have gB1 := hG 2 (by decide)
        have gA1 := hG 3 (by decide)
        have gB2 := hG 10 (by decide)
        have gA2 := hG 11 (by decide)
        have gV := hG 12 (by decide)
        simp only at gB1 gA1 gB2 gA2 gV
        simp only [putL, List.map_cons, List.map_nil, List.foldl_cons, List.foldl_nil, Act.put]
        simp only [List.setIfInBounds_toArray, List.set_cons_zero, List.set_cons_succ]
        generalize xs 2 = z1 at *
        generalize xs 3 = v1 at *
        generalize xs 10 = z2 at *
        generalize xs 11 = v2 at *
        generalize xs 12 = zp at *
        subst gV
        refine tail_seq 13 rfl (by kernel_rfl) ?_
        simp only [List.drop_succ_cons, List.drop_zero]
        obtain ⟨V1, cv1, rfl, _, _⟩ := gA1.1.inV
        obtain ⟨V2, cv2, rfl, _, _⟩ := gA2.1.inV
        have hT1 := hT.adv hS gA1 gA2
        obtain ⟨hkx, _, _⟩ := hT.keep hS
        obtain ⟨q0, q1, q2, q3, f0, f1, f2, f3⟩ := blk4 hkx
        clear hcell hB1 hB2 hbase hS0 ob1 ob2 hG gA1 gA2 gB1 gB2 hS hT
        generalize (List.replicate k true ++ [true]).length = n1 at *
        generalize (a.take k ++ [ak]).length = n2 at *
        go_wp2_with fail
        refine NoPanic.normal ?_
        clear q0 q1 q2 q3 f0 f1 f2 f3 hkx
        generalize (W.setCell ⟨gx, 2, none⟩ (.slice V1 n1 cv1)).setCell ⟨gx, 3, none⟩ (.slice V2 n2 cv2) = w8 at *
        go_wp2_with fail
        have hT := hT1.swap
        clear hT1
        have hcell : ∀ W, Keep2 y1.ownBlock y2.ownBlock w8.drew W → W.cell? ⟨gy, 2, none⟩ = some y1 ∧ W.cell? ⟨gy, 3, none⟩ = some y2 ∧ W.cell? ⟨b2, o2 + k, none⟩ = some (.int .i64 bk) := fun W hW => by
          obtain ⟨k1, _, k3⟩ := hT.keep hW
          obtain ⟨_, _, q2, q3, _⟩ := blk4 k1
          exact ⟨q2, q3, k3.cell hc2⟩
        have hB1 := hT.ox1.lt
        have hB2 := hT.ox2.lt
        have hbase := hT.ext.size
        refine wp_region_Y (Keep2 y1.ownBlock y2.ownBlock w8.drew) #[true, true, true, true, true, true, true, true, true, true, true, true, true, true, false, false, false] 14 3 (by kernel_rfl) rfl ?_
        have hS0 : Keep2 y1.ownBlock y2.ownBlock w8.drew w8.drew := Keep2.refl _ _ _
        refine wpY_v 0 (.pointer (some ⟨gy, 2, none⟩)) rfl rfl (by kernel_rfl) (by kernel_rfl) (by kernel_rfl) (fun _ _ _ _ h => h) (by kernel_rfl) rfl (by rfl) hS0 (fun W hW => by
          obtain ⟨q2, q3, q4⟩ := hcell W hW
          clear hcell
          go_simp) ?_
        simp only [List.setIfInBounds_toArray, List.set_cons_zero, List.set_cons_succ]
        refine wpY_v 1 (y1) rfl rfl (by kernel_rfl) (by kernel_rfl) (by kernel_rfl) (fun _ _ _ _ h => h) (by kernel_rfl) rfl (by rfl) hS0 (fun W hW => by
          obtain ⟨q2, q3, q4⟩ := hcell W hW
          clear hcell
          go_simp) ?_
        simp only [List.setIfInBounds_toArray, List.set_cons_zero, List.set_cons_succ]
        refine wpY_v 2 (.bool kb) rfl rfl (by kernel_rfl) (by kernel_rfl) (by kernel_rfl) (fun _ _ _ _ h => h) (by kernel_rfl) rfl (by rfl) hS0 (fun W hW => by
          obtain ⟨q2, q3, q4⟩ := hcell W hW
          clear hcell
          go_simp) ?_
        simp only [List.setIfInBounds_toArray, List.set_cons_zero, List.set_cons_succ]
        refine wpY_v 5 (.pointer (some ⟨gy, 3, none⟩)) rfl rfl (by kernel_rfl) (by kernel_rfl) (by kernel_rfl) (fun _ _ _ _ h => h) (by kernel_rfl) rfl (by rfl) hS0 (fun W hW => by
          obtain ⟨q2, q3, q4⟩ := hcell W hW
          clear hcell
          go_simp) ?_
        simp only [List.setIfInBounds_toArray, List.set_cons_zero, List.set_cons_succ]
        refine wpY_v 6 (y2) rfl rfl (by kernel_rfl) (by kernel_rfl) (by kernel_rfl) (fun _ _ _ _ h => h) (by kernel_rfl) rfl (by rfl) hS0 (fun W hW => by
          obtain ⟨q2, q3, q4⟩ := hcell W hW
          clear hcell
          go_simp) ?_
        simp only [List.setIfInBounds_toArray, List.set_cons_zero, List.set_cons_succ]
        refine wpY_v 7 (.slice (some ⟨b2, o2, none⟩) b.length c2) rfl rfl (by kernel_rfl) (by kernel_rfl) (by kernel_rfl) (fun _ _ _ _ h => h) (by kernel_rfl) rfl (by rfl) hS0 (fun W hW => by
          obtain ⟨q2, q3, q4⟩ := hcell W hW
          clear hcell
          go_simp) ?_
        simp only [List.setIfInBounds_toArray, List.set_cons_zero, List.set_cons_succ]
        refine wpY_v 8 (.int .i64 (k : Int)) rfl rfl (by kernel_rfl) (by kernel_rfl) (by kernel_rfl) (fun _ _ _ _ h => h) (by kernel_rfl) rfl (by rfl) hS0 (fun W hW => by
          obtain ⟨q2, q3, q4⟩ := hcell W hW
          clear hcell
          go_simp) ?_
        simp only [List.setIfInBounds_toArray, List.set_cons_zero, List.set_cons_succ]
        refine wpY_v 9 (.pointer (some ⟨b2, o2 + k, none⟩)) rfl rfl (by kernel_rfl) (by kernel_rfl) (by kernel_rfl) (fun _ _ _ _ h => h) (by kernel_rfl) rfl (by rfl) hS0 (fun W hW => by
          obtain ⟨q2, q3, q4⟩ := hcell W hW
          clear hcell
          go_simp) ?_
        simp only [List.setIfInBounds_toArray, List.set_cons_zero, List.set_cons_succ]
        refine wpY_v 10 (.int .i64 bk) rfl rfl (by kernel_rfl) (by kernel_rfl) (by kernel_rfl) (fun _ _ _ _ h => h) (by kernel_rfl) rfl (by rfl) hS0 (fun W hW => by
          obtain ⟨q2, q3, q4⟩ := hcell W hW
          clear hcell
          go_simp) ?_
        simp only [List.setIfInBounds_toArray, List.set_cons_zero, List.set_cons_succ]
        have ob1 : OwnV Value.bool 4 w.heap.size w8.drew y1 (knW mask k) := hT.ox1
        have ob2 : OwnV iv 3 w.heap.size w8.drew y2 (b.take k) := hT.ox2
        refine wpY_inv _ [3, 4, 11, 12, 13] (fun i => match i with | 3 => 52 | 4 => 53 | 11 => 60 | 12 => 61 | _ => 62) (fun i v W => match i with | 3 => OwnV Value.bool 4 w.heap.size W v [kb] ∧ (∃ g, v.ownBlock = some g ∧ w8.heap.size ≤ g) | 4 => OwnV Value.bool 4 w.heap.size W v (knW mask k ++ [kb]) ∧ (v.ownBlock = y1.ownBlock ∨ ∃ g, v.ownBlock = some g ∧ w8.heap.size ≤ g) | 11 => OwnV iv 3 w.heap.size W v [bk] ∧ (∃ g, v.ownBlock = some g ∧ w8.heap.size ≤ g) | 12 => OwnV iv 3 w.heap.size W v (b.take k ++ [bk]) ∧ (v.ownBlock = y2.ownBlock ∨ ∃ g, v.ownBlock = some g ∧ w8.heap.size ≤ g) | _ => v = .pointer (some ⟨gy, 2, none⟩)) (fun i W => match i with | 4 => OwnV Value.bool 4 w.heap.size W y1 (knW mask k) | 12 => OwnV iv 3 w.heap.size W y2 (b.take k) | _ => True) 137 (by kernel_rfl) rfl (by decide) rfl ?_ hS0 ?_ ?_
        · intro i hi a W hsN hS hH ha hw
          simp only [List.mem_cons, List.not_mem_nil, or_false] at hi
          have hsz : w8.heap.size ≤ W.heap.size := hS.size
          rcases hi with rfl | rfl | rfl | rfl | rfl
          · refine op_make (v := .slice (some ⟨W.heap.size, 0, none⟩) 1 1) (W' := W.alloc (.cells #[Value.bool kb] 4)) rfl rfl (by
              have e0 : a.tmps[51]?.getD undef = .bool kb := (ha 51 rfl).2
              go_simp
              ) ?_
            refine ⟨_, rfl, .inl (by decide), hS.ext ((Ext.refl W).alloc _), ⟨(OwnV_new (f := Value.bool) W kb 4).low (by omega), _, rfl, hsz⟩, ?_⟩
            · intro j hj hne
              simp only [List.mem_cons, List.not_mem_nil, or_false] at hj
              rcases hj with rfl | rfl | rfl | rfl | rfl
              · exact ⟨fun u hu => ⟨hu.1.ext ((Ext.refl W).alloc _), hu.2⟩, fun _ => trivial⟩
              · exact ⟨fun u hu => ⟨hu.1.ext ((Ext.refl W).alloc _), hu.2⟩, fun hu => hu.ext ((Ext.refl W).alloc _)⟩
              · exact ⟨fun u hu => ⟨hu.1.ext ((Ext.refl W).alloc _), hu.2⟩, fun _ => trivial⟩
              · exact ⟨fun u hu => ⟨hu.1.ext ((Ext.refl W).alloc _), hu.2⟩, fun hu => hu.ext ((Ext.refl W).alloc _)⟩
              · exact ⟨fun u hu => hu, fun _ => trivial⟩
          · have g1 := hw 3 (by decide) (by kernel_rfl)
            refine op_append elem_bool (fun _ => rfl) rfl rfl (s := .tmp 50) (x := .tmp 52) rfl (show a.eval (.tmp 50) = y1 from (ha 50 rfl).1) rfl (Nat.le_trans hbase hsz) (by first | (simp; omega) | (simp [knW_len]; omega)) (by omega) hH g1.1.inV fun v' W' o1 gr => ?_
            refine ⟨_, rfl, .inl (by decide), hS.one gr.grown, ⟨o1, gr.lies.imp id fun ⟨q, q1, q2⟩ => ⟨q, q1, Nat.le_trans hsz q2⟩⟩, ?_⟩
            intro j hj hne
            simp only [List.mem_cons, List.not_mem_nil, or_false] at hj
            have far : ∀ u : Value, (∃ g, u.ownBlock = some g ∧ w8.heap.size ≤ g) → u.ownBlock ≠ y1.ownBlock := fun u ⟨q, q1, q2⟩ q3 => by
              have := hB1 q (q3.symm.trans q1)
              omega
            rcases hj with rfl | rfl | rfl | rfl | rfl
            · exact ⟨fun u hu => ⟨hu.1.kept gr.grown (.inr (far u hu.2)), hu.2⟩, fun _ => trivial⟩
            · exact absurd rfl hne
            · exact ⟨fun u hu => ⟨hu.1.kept gr.grown (hu.1.ne hH (by decide)), hu.2⟩, fun _ => trivial⟩
            · exact ⟨fun u hu => ⟨hu.1.kept gr.grown (hu.1.ne hH (by decide)), hu.2⟩, fun hu => hu.kept gr.grown (hu.ne hH (by decide))⟩
            · exact ⟨fun u hu => hu, fun _ => trivial⟩
          · refine op_make (v := .slice (some ⟨W.heap.size, 0, none⟩) 1 1) (W' := W.alloc (.cells #[iv bk] 3)) rfl rfl (by
              have e0 : a.tmps[59]?.getD undef = .int .i64 bk := (ha 59 rfl).2
              go_simp; rfl
              ) ?_
            refine ⟨_, rfl, .inl (by decide), hS.ext ((Ext.refl W).alloc _), ⟨(OwnV_new (f := iv) W bk 3).low (by omega), _, rfl, hsz⟩, ?_⟩
            · intro j hj hne
              simp only [List.mem_cons, List.not_mem_nil, or_false] at hj
              rcases hj with rfl | rfl | rfl | rfl | rfl
              · exact ⟨fun u hu => ⟨hu.1.ext ((Ext.refl W).alloc _), hu.2⟩, fun _ => trivial⟩
              · exact ⟨fun u hu => ⟨hu.1.ext ((Ext.refl W).alloc _), hu.2⟩, fun hu => hu.ext ((Ext.refl W).alloc _)⟩
              · exact ⟨fun u hu => ⟨hu.1.ext ((Ext.refl W).alloc _), hu.2⟩, fun _ => trivial⟩
              · exact ⟨fun u hu => ⟨hu.1.ext ((Ext.refl W).alloc _), hu.2⟩, fun hu => hu.ext ((Ext.refl W).alloc _)⟩
              · exact ⟨fun u hu => hu, fun _ => trivial⟩
          · have g1 := hw 11 (by decide) (by kernel_rfl)
            refine op_append elem_int (fun _ => rfl) rfl rfl (s := .tmp 55) (x := .tmp 60) rfl (show a.eval (.tmp 55) = y2 from (ha 55 rfl).1) rfl (Nat.le_trans hbase hsz) (by first | (simp; omega) | (simp [knW_len]; omega)) (by omega) hH g1.1.inV fun v' W' o1 gr => ?_
            refine ⟨_, rfl, .inl (by decide), hS.two gr.grown, ⟨o1, gr.lies.imp id fun ⟨q, q1, q2⟩ => ⟨q, q1, Nat.le_trans hsz q2⟩⟩, ?_⟩
            intro j hj hne
            simp only [List.mem_cons, List.not_mem_nil, or_false] at hj
            have far : ∀ u : Value, (∃ g, u.ownBlock = some g ∧ w8.heap.size ≤ g) → u.ownBlock ≠ y2.ownBlock := fun u ⟨q, q1, q2⟩ q3 => by
              have := hB2 q (q3.symm.trans q1)
              omega
            rcases hj with rfl | rfl | rfl | rfl | rfl
            · exact ⟨fun u hu => ⟨hu.1.kept gr.grown (hu.1.ne hH (by decide)), hu.2⟩, fun _ => trivial⟩
            · exact ⟨fun u hu => ⟨hu.1.kept gr.grown (hu.1.ne hH (by decide)), hu.2⟩, fun hu => hu.kept gr.grown (hu.ne hH (by decide))⟩
            · exact ⟨fun u hu => ⟨hu.1.kept gr.grown (.inr (far u hu.2)), hu.2⟩, fun _ => trivial⟩
            · exact absurd rfl hne
            · exact ⟨fun u hu => hu, fun _ => trivial⟩
          · refine op_make (v := .pointer (some ⟨gy, 2, none⟩)) (W' := W) rfl rfl (by
              have e0 : a.tmps[9]?.getD undef = .pointer (some ⟨gy, 0, none⟩) := (ha 9 rfl).2
              go_simp) ?_
            refine ⟨_, rfl, .inl (by decide), hS, rfl, fun j hj hne => ⟨fun u hu => hu, fun hu => hu⟩⟩
        · intro i hi
          simp only [List.mem_cons, List.not_mem_nil, or_false] at hi
          rcases hi with rfl | rfl | rfl | rfl | rfl
          · trivial
          · exact ob1
          · trivial
          · exact ob2
          · trivial
        intro xs W hS hG
        have gB1 := hG 3 (by decide)
        have gA1 := hG 4 (by decide)
        have gB2 := hG 11 (by decide)
        have gA2 := hG 12 (by decide)
        have gV := hG 13 (by decide)
        simp only at gB1 gA1 gB2 gA2 gV
        simp only [putL, List.map_cons, List.map_nil, List.foldl_cons, List.foldl_nil, Act.put]
        simp only [List.setIfInBounds_toArray, List.set_cons_zero, List.set_cons_succ]
        generalize xs 3 = z1 at *
        generalize xs 4 = v1 at *
        generalize xs 11 = z2 at *
        generalize xs 12 = v2 at *
        generalize xs 13 = zp at *
        subst gV
        refine tail_seq 14 rfl (by kernel_rfl) ?_
        simp only [List.drop_succ_cons, List.drop_zero]
        obtain ⟨V3, cv3, rfl, _, _⟩ := gA1.1.inV
        obtain ⟨V4, cv4, rfl, _, _⟩ := gA2.1.inV
        have hT1 := hT.adv hS gA1 gA2
        obtain ⟨hkx, _, _⟩ := hT.keep hS
        obtain ⟨q0, q1, q2, q3, f0, f1, f2, f3⟩ := blk4 hkx
        clear hcell hB1 hB2 hbase hS0 ob1 ob2 hG gA1 gA2 gB1 gB2 hS hT
        generalize (knW mask k ++ [kb]).length = n3 at *
        generalize (b.take k ++ [bk]).length = n4 at *
        go_wp2_with fail
        refine NoPanic.normal ?_
        clear q0 q1 q2 q3 f0 f1 f2 f3 hkx
        generalize (W.setCell ⟨gy, 2, none⟩ (.slice V3 n3 cv3)).setCell ⟨gy, 3, none⟩ (.slice V4 n4 cv4) = w9 at *
        have hT2 : Two w w9 (.int .i64 3) gx gy (.slice V1 n1 cv1) (.slice V2 n2 cv2) (.slice V3 n3 cv3) (.slice V4 n4 cv4) (List.replicate (k + 1) true) (a.take (k + 1)) (knW mask (k + 1)) (b.take (k + 1)) := by
          rw [List.replicate_succ', HA.out, HB.out, knW_succ, HK.out]
          exact hT1.swap
        clear hT1 HA HB HK
        generalize hcc : chgW mask a b k = c0 at HC ⊢
        clear hcc
        have hc1' := hT2.ext.cell hc1
        have hc2' := hT2.ext.cell hc2
        clear hc1 hc2
        cases c0 with
        | true =>
          go_wp2_with fail
          go_quiet (fail)
          go_wp2_with fail
          go_roundw
          case rel => exact ⟨k + 1, _, _, _, _, by omega, by go_num, by (rw [HC.out]; first | rfl | (simp; done) | (simp [HAB.out]; done) | (simp; assumption)), hT2.drewN _⟩
          case measure => simp [intOf]; omega
        | false =>
          cases kb with
          | false =>
            go_wp2_with fail
            go_quiet (fail)
            go_wp2_with fail
            go_roundw
            case rel => exact ⟨k + 1, _, _, _, _, by omega, by go_num, by (rw [HC.out]; first | rfl | (simp; done) | (simp [HAB.out]; done) | (simp; assumption)), hT2.drewN _⟩
            case measure => simp [intOf]; omega
          | true =>
            by_cases hab : ak = bk
            · have e6 : (ak != bk) = false := by simp [hab]
              have HAB := Lib.hid hab
              clear hab
              go_wp2_with fail
              go_quiet (fail)
              go_wp2_with fail
              go_roundw
              case rel => exact ⟨k + 1, _, _, _, _, by omega, by go_num, by (rw [HC.out]; first | rfl | (simp; done) | (simp [HAB.out]; done) | (simp; assumption)), hT2.drewN _⟩
              case measure => simp [intOf]; omega
            · have e6 : (ak != bk) = true := by simpa using hab
              go_wp2_with fail
              go_quiet (fail)
              go_wp2_with fail
              go_roundw
              case rel => exact ⟨k + 1, _, _, _, _, by omega, by go_num, by (rw [HC.out]; first | rfl | (simp; done) | (simp [HAB.out]; done) | (simp; assumption)), hT2.drewN _⟩
              case measure => simp [intOf]; omega
      · obtain rfl : k = N := by omega
        obtain ⟨q0, q1, q2, q3, _⟩ := blk4 hT.bx
        obtain ⟨r0, r1, r2, r3, _⟩ := blk4 hT.by_
        obtain ⟨X1, cx1, rfl, _, _⟩ := hT.ox1.inV
        obtain ⟨X2, cx2, rfl, _, _⟩ := hT.ox2.inV
        obtain ⟨Y1, cy1, rfl, _, _⟩ := hT.oy1.inV
        obtain ⟨Y2, cy2, rfl, _, _⟩ := hT.oy2.inV
        have hDx : DatAt wo (.agg #[.int .i64 3, .int .i64 0, .slice X1 (List.replicate k true).length cx1, .slice X2 (a.take k).length cx2]) ⟨3, 0, List.replicate k true, a.take k⟩ := ⟨_, _, rfl, hT.ox1.inV, hT.ox2.inV⟩
        have hDy : DatAt wo (.agg #[.int .i64 3, .int .i64 0, .slice Y1 (knW mask k).length cy1, .slice Y2 (b.take k).length cy2]) ⟨3, 0, knW mask k, b.take k⟩ := ⟨_, _, rfl, hT.oy1.inV, hT.oy2.inV⟩
        generalize (List.replicate k true).length = n1 at *
        generalize (a.take k).length = n2 at *
        generalize (knW mask k).length = n3 at *
        generalize (b.take k).length = n4 at *
        have hE := hT.ext
        clear hT
        go_wp2_with fail
        refine (Check_any _ _ _ _ wo hDx hDy (by simp; omega) (by simp; omega) (by simp [knW_len]; omega) (by simp; omega)).mono ?_
        rintro e w3 ⟨v3, r3, rfl, hr3, hd3, he3⟩
        have hch := words_chk mask a b k hNa hNb
        rw [hch.1] at hd3
        rw [hch.2] at hr3
        obtain rfl : r3 = chgW mask a b k := by
          cases r3 <;> cases hq : chgW mask a b k <;> simp_all
        clear hch hr3 hDx hDy
        have hd3' : DatAt w3 v3 ⟨3, 0, List.replicate k true, wdW mask a b k⟩ := hd3.at_
        clear hd3
        have hE3 := hE.trans he3
        clear hE he3 q0 q1 q2 q3 r0 r1 r2 r3
        obtain ⟨zx, zy, rfl, ⟨Z1, cz1, hz1, _, hrz1⟩, ⟨Z2, cz2, hz2, _, hrz2⟩⟩ := hd3'
        simp only [List.length_replicate, wdW_len mask a b k hNa] at hz1 hz2
        subst hz1 hz2
        go_wp2_with fail
        have hb4 := heap_alloc_new w3 (.cells #[.int .i64 3, .int .i64 0, .slice Z1 k cz1, .slice Z2 k cz2] 25)
        have he4 := (Ext.refl w3).alloc (.cells #[.int .i64 3, .int .i64 0, .slice Z1 k cz1, .slice Z2 k cz2] 25)
        generalize w3.alloc (.cells #[.int .i64 3, .int .i64 0, .slice Z1 k cz1, .slice Z2 k cz2] 25) = w4 at *
        generalize w3.heap.size = gz at *
        have hra := (hr1.ext hE3).ext he4
        have hrb := (hr2.ext hE3).ext he4
        have hrz := hrz1.ext he4
        have hry := hrz2.ext he4
        have hE4 := hE3.trans he4
        have hlz := wdW_len mask a b k hNa
        have HG := Lib.hid (wdW_get mask a b k)
        clear hr1 hr2 hrz1 hrz2 hE3 he4
        obtain ⟨q0, q1, q2, q3, _⟩ := blk4 hb4
        have HLZ := Lib.hid hlz
        clear hlz hb4
        go_loop [15, 16] (fun i _ => ∃ j : Nat, j ≤ k ∧ i = .int .i64 (j : Int)) (fun i _ => k - (intOf i).toNat)
        case atStart => exact ⟨0, Nat.zero_le _, rfl⟩
        case round =>
          obtain ⟨j, hj, rfl⟩ := hrel
          by_cases hjk : j < k
          · obtain ⟨b1, o1, rfl, hc1⟩ := hra.int (k := j) (by omega)
            obtain ⟨b2, o2, rfl, hc2⟩ := hrb.int (k := j) (by omega)
            obtain ⟨b3, o3, rfl, hc3⟩ := hrz.bool (k := j) (by simpa using hjk)
            obtain ⟨b4, o4, rfl, hc4⟩ := hry.int (k := j) (by have := HLZ.out; omega)
            have hv := HG.out j hjk hNa hNb
            rw [List.getElem?_eq_getElem (by have := HLZ.out; omega)] at hv
            injection hv with hv
            rw [hv] at hc4
            clear hv
            have hc3' : w4.cell? ⟨b3, o3 + j, none⟩ = some (.bool true) := by rw [hc3]; simp
            clear hc3
            have hia : (j : Int) < (a.length : Int) := by omega
            have hib : (j : Int) < (b.length : Int) := by omega
            have hik : (j : Int) < (k : Int) := by omega
            generalize a[j] = aj at *
            generalize b[j] = bj at *
            cases hkb : kbW mask j with
            | true =>
              rw [hkb, if_pos rfl] at hc4
              have hbit : (bits .and .i64 (mask / 2 ^ j) 1 == 0) = true := hkb
              clear hkb
              go_wp2_with fail
              go_round
              case rel => exact ⟨j + 1, by omega, by go_num⟩
              case measure => simp [intOf]; omega
            | false =>
              rw [hkb, if_neg (by decide)] at hc4
              have hbit : (bits .and .i64 (mask / 2 ^ j) 1 == 0) = false := hkb
              clear hkb
              go_wp2_with fail
              go_round
              case rel => exact ⟨j + 1, by omega, by go_num⟩
              case measure => simp [intOf]; omega
          · go_wp2_with fail
            refine (awake_any w4).mono ?_
            rintro e w9 ⟨rfl, he9⟩
            go_wp2
            go_ret
            exact ⟨rfl, hE4.trans he9⟩
end Go.Proofs.Ytmabaldbilkcjaa
