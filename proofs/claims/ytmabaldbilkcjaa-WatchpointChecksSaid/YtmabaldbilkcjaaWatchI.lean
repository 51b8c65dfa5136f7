/- The contract of the reference's Check. -/
import Derived.Test.YtmabaldbilkcjaaWatchH
namespace Go.Proofs.Ytmabaldbilkcjaa
open Go.RowKit
set_option linter.unusedVariables false

def RefPost (d : Dat) (p : Prop) (w : World) (e : Ending) (w' : World) : Prop := ∃ v r, e = .returned (.tuple #[v, .bool r]) ∧ (r = true ↔ p) ∧ DatAt w' v d ∧ Ext w w'

/-- the boxes of the two values and of the result -/
structure Boxes3 (w W : World) (a b : Dat) (x1 x2 y1 y2 : Value) : Prop where
  ext : Ext w W
  last : W.heap[w.heap.size]? = some (.cells #[.int .i64 a.kind, .int .i64 a.record, x1, x2] 25 (0, 0))
  now : W.heap[w.heap.size + 1]? = some (.cells #[.int .i64 b.kind, .int .i64 b.record, y1, y2] 25 (0, 0))
theorem boxes3 (w : World) (a b : Dat) (x1 x2 y1 y2 : Value) : ∃ W, W = ((w.alloc (.cells #[.int .i64 a.kind, .int .i64 a.record, x1, x2] 25)).alloc (.cells #[.int .i64 b.kind, .int .i64 b.record, y1, y2] 25)).alloc (.cells #[.int .i64 0, .int .i64 0, .slice none 0 0, .slice none 0 0] 25) ∧ Boxes3 w W a b x1 x2 y1 y2 ∧
    W.heap[w.heap.size + 2]? = some (.cells #[.int .i64 0, .int .i64 0, .slice none 0 0, .slice none 0 0] 25 (0, 0)) ∧ W.heap.size = w.heap.size + 3 := by
  refine ⟨_, rfl, ⟨(((Ext.refl w).alloc _).alloc _).alloc _, blk_alloc (blk_alloc (heap_alloc_new w _) _) _, blk_alloc ?_ _⟩, ?_, by simp⟩
  · have := heap_alloc_new (w.alloc (.cells #[.int .i64 a.kind, .int .i64 a.record, x1, x2] 25)) (.cells #[.int .i64 b.kind, .int .i64 b.record, y1, y2] 25)
    simpa using this
  · have := heap_alloc_new ((w.alloc (.cells #[.int .i64 a.kind, .int .i64 a.record, x1, x2] 25)).alloc (.cells #[.int .i64 b.kind, .int .i64 b.record, y1, y2] 25)) (.cells #[.int .i64 0, .int .i64 0, .slice none 0 0, .slice none 0 0] 25)
    simpa using this
theorem Boxes3.grow {w W W' : World} {a b : Dat} {x1 x2 y1 y2 : Value} (h : Boxes3 w W a b x1 x2 y1 y2) (he : Ext W W') : Boxes3 w W' a b x1 x2 y1 y2 :=
  ⟨h.ext.trans he, he.heap h.last, he.heap h.now⟩
theorem Boxes3.set {w W : World} {a b : Dat} {x1 x2 y1 y2 : Value} (h : Boxes3 w W a b x1 x2 y1 y2) {p : Addr} (hp : w.heap.size + 2 ≤ p.block) (v : Value) : Boxes3 w (W.setCell p v) a b x1 x2 y1 y2 :=
  ⟨h.ext.setCell (by omega) v, blk_far h.last (by omega) v, blk_far h.now (by omega) v⟩

/-- what the reference collects -/
def outK (a b : Dat) (k : Nat) : List Bool := (List.range k).map fun i => if b.known.getD i false = true then true else a.known.getD i false
def outW (a b : Dat) (k : Nat) : List Int := (List.range k).map fun i => if b.known.getD i false = true then b.words.getD i 0 else a.words.getD i 0
theorem outK_len (a b : Dat) (k : Nat) : (outK a b k).length = k := by simp [outK]
theorem outW_len (a b : Dat) (k : Nat) : (outW a b k).length = k := by simp [outW]
theorem stepK_get (b : Dat) (l : List Bool) (k i : Nat) : (stepK b l k)[i]? = if i < k ∧ b.known.getD i false = true ∧ i < l.length then some true else l[i]? := by
  induction k with
  | zero => simp [stepK]
  | succ k ih =>
    rw [stepK]
    by_cases hk : b.known.getD k false = true
    · rw [if_pos hk]
      by_cases e : k = i
      · subst e
        by_cases hl : k < l.length
        · rw [List.getElem?_set_self (by rw [stepK_len]; exact hl), if_pos ⟨by omega, hk, hl⟩]
        · rw [List.getElem?_eq_none (by simp [stepK_len]; omega), if_neg (fun h => hl h.2.2), List.getElem?_eq_none (by omega)]
      · rw [List.getElem?_set_ne e, ih]
        by_cases h : i < k
        · simp only [h, show i < k + 1 by omega]
        · simp only [h, show ¬ i < k + 1 by omega]
    · rw [if_neg hk, ih]
      by_cases e : i = k
      · subst e
        rw [if_neg (by simp), if_neg (fun h => hk h.2.1)]
      · by_cases h : i < k
        · simp only [h, show i < k + 1 by omega]
        · simp only [h, show ¬ i < k + 1 by omega]
theorem out_chk (a b : Dat) (h : alikeD a b) : chkD a b = ⟨b.kind, b.record, outK a b b.words.length, outW a b b.words.length⟩ ∧ (chkC a b ↔ stepC a b b.words.length = true) := by
  obtain ⟨h1, h2, h3, h4, h5⟩ := h
  unfold chkD chkC
  rw [if_pos ⟨h1, h2, h3, h4, h5⟩, if_pos ⟨h1, h2, h3, h4, h5⟩]
  have e : b.known.length = b.words.length := by omega
  rw [e]
  refine ⟨?_, Iff.rfl⟩
  have eK : stepK b a.known b.words.length = outK a b b.words.length := by
    apply List.ext_getElem?
    intro i
    rw [stepK_get, outK, List.getElem?_map]
    by_cases hi : i < b.words.length
    · rw [List.getElem?_range hi]
      by_cases hk : b.known.getD i false = true
      · simp only [Option.map_some, hk, if_true, hi, true_and, show i < a.known.length by omega]
      · rw [if_neg (fun x => hk x.2.1)]
        simp only [Option.map_some, hk]
        simp [List.getD, List.getElem?_eq_getElem (show i < a.known.length by omega)]
    · rw [if_neg (fun x => hi x.1), List.getElem?_eq_none (by omega), List.getElem?_eq_none (by simp; omega)]; rfl
  have eW : stepW b a.words b.words.length = outW a b b.words.length := by
    apply List.ext_getElem?
    intro i
    rw [stepW_get, outW, List.getElem?_map]
    by_cases hi : i < b.words.length
    · rw [List.getElem?_range hi]
      by_cases hk : b.known.getD i false = true
      · simp only [Option.map_some, hk, if_true, hi, true_and, show i < a.words.length by omega]
      · rw [if_neg (fun x => hk x.2.1)]
        simp only [Option.map_some, hk]
        simp [List.getD, List.getElem?_eq_getElem (show i < a.words.length by omega)]
    · rw [if_neg (fun x => hi x.1), List.getElem?_eq_none (by omega), List.getElem?_eq_none (by simp; omega)]; rfl
  rw [eK, eW, h1, h2]

theorem OwnV_new' {α : Type} {f : α → Value} (w : World) (n : Nat) (hn : w.heap.size = n) (x : α) (e : TypeId) : OwnV f e w.heap.size (w.alloc (.cells #[f x] e)) (.slice (some ⟨n, 0, none⟩) 1 1) [x] := by
  subst hn; exact OwnV_new w x e
/-- the variable 'out' -/
structure OutV (w wr : World) (g : Nat) (x y : Value) (a b : Dat) (x1 x2 y1 y2 : Value) (lk : List Bool) (lw : List Int) : Prop where
  box : Boxes3 w wr a b x1 x2 y1 y2
  res : wr.heap[w.heap.size + 2]? = some (.cells #[.int .i64 0, .int .i64 0, .slice none 0 0, .slice none 0 0] 25 (0, 0))
  out : wr.heap[g]? = some (.cells #[.int .i64 b.kind, .int .i64 b.record, x, y] 25 (0, 0))
  ok : OwnV Value.bool 4 w.heap.size wr x lk
  ow : OwnV iv 3 w.heap.size wr y lw
  gt : w.heap.size + 2 < g
theorem OutV.ext {w wr w' : World} {g : Nat} {x y : Value} {a b : Dat} {x1 x2 y1 y2 : Value} {lk : List Bool} {lw : List Int} (h : OutV w wr g x y a b x1 x2 y1 y2 lk lw) (he : Ext wr w') : OutV w w' g x y a b x1 x2 y1 y2 lk lw :=
  ⟨h.box.grow he, he.heap h.res, he.heap h.out, h.ok.ext he, h.ow.ext he, h.gt⟩
theorem Boxes3.grown {α : Type} {f : α → Value} {e : TypeId} {base : Nat} {v : Value} {l : List α} {w wr w' : World} {a b : Dat} {x1 x2 y1 y2 : Value} (h : Boxes3 w wr a b x1 x2 y1 y2) (ho : OwnV f e base wr v l) (he : e ≠ 25) (hb : w.heap.size ≤ base) (hg : wr.grownBy w' v.ownBlock) : Boxes3 w w' a b x1 x2 y1 y2 :=
  ⟨h.ext.grown hg (fun k hk => Nat.le_trans hb (ho.ge k hk)), blk_grown h.last hg (fun e2 => ho.ne_blk h.last he e2.symm), blk_grown h.now hg (fun e2 => ho.ne_blk h.now he e2.symm)⟩
/-- one word more -/
theorem OutV.advK {w wr w' : World} {g : Nat} {x y x' : Value} {a b : Dat} {x1 x2 y1 y2 : Value} {lk lk' : List Bool} {lw : List Int} (h : OutV w wr g x y a b x1 x2 y1 y2 lk lw) (ho : OwnV Value.bool 4 w.heap.size w' x' lk') (hg : wr.grownBy w' x.ownBlock) :
    OutV w (w'.setCell ⟨g, 2, none⟩ x') g x' y a b x1 x2 y1 y2 lk' lw := by
  have hout := blk_grown h.out hg (fun e2 => h.ok.ne_blk h.out (by decide) e2.symm)
  have hres := blk_grown h.res hg (fun e2 => h.ok.ne_blk h.res (by decide) e2.symm)
  have how := h.ow.kept hg (h.ow.ne h.ok (by decide))
  have := blk_set hout 2 x'
  exact ⟨(h.box.grown h.ok (by decide) (Nat.le_refl _) hg).set (p := ⟨g, 2, none⟩) (by have := h.gt; show w.heap.size + 2 ≤ g; omega) _, blk_far hres (by have := h.gt; show w.heap.size + 2 ≠ g; omega) _, by simpa using this, ho.set_far (ho.ne_blk hout (by decide)) _, how.set_far (how.ne_blk hout (by decide)) _, h.gt⟩
theorem OutV.advW {w wr w' : World} {g : Nat} {x y y' : Value} {a b : Dat} {x1 x2 y1 y2 : Value} {lk : List Bool} {lw lw' : List Int} (h : OutV w wr g x y a b x1 x2 y1 y2 lk lw) (ho : OwnV iv 3 w.heap.size w' y' lw') (hg : wr.grownBy w' y.ownBlock) :
    OutV w (w'.setCell ⟨g, 3, none⟩ y') g x y' a b x1 x2 y1 y2 lk lw' := by
  have hout := blk_grown h.out hg (fun e2 => h.ow.ne_blk h.out (by decide) e2.symm)
  have hres := blk_grown h.res hg (fun e2 => h.ow.ne_blk h.res (by decide) e2.symm)
  have hok := h.ok.kept hg (h.ok.ne h.ow (by decide))
  have := blk_set hout 3 y'
  exact ⟨(h.box.grown h.ow (by decide) (Nat.le_refl _) hg).set (p := ⟨g, 3, none⟩) (by have := h.gt; show w.heap.size + 2 ≤ g; omega) _, blk_far hres (by have := h.gt; show w.heap.size + 2 ≠ g; omega) _, by simpa using this, hok.set_far (hok.ne_blk hout (by decide)) _, ho.set_far (ho.ne_blk hout (by decide)) _, h.gt⟩

set_option maxHeartbeats 2000000 in
set_option maxRecDepth 100000 in
theorem refCheck_any (u v : Value) (a b : Dat) (w : World) (hu : DatAt w u a) (hv : DatAt w v b)
    (ha1 : a.known.length ≤ 1000000) (ha2 : a.words.length ≤ 1000000) (hb1 : b.known.length ≤ 1000000) (hb2 : b.words.length ≤ 1000000) :
    Calls Try.prog 9 #[u, v] w (RefPost (chkD a b) (chkC a b) w) := by
  have hU := hu
  have hV := hv
  obtain ⟨x, y, rfl, ⟨A1, c1, rfl, _, hr1⟩, ⟨A2, c2, rfl, _, hr2⟩⟩ := hu
  obtain ⟨x', y', rfl, ⟨A3, c3, rfl, _, hr3⟩, ⟨A4, c4, rfl, _, hr4⟩⟩ := hv
  go_enter Try.func9, Try.ntmps9
  go_upto_region 2 with fail
  obtain ⟨W, hW, hB, h2, hsz⟩ := boxes3 w a b (.slice A1 a.known.length c1) (.slice A2 a.words.length c2) (.slice A3 b.known.length c3) (.slice A4 b.words.length c4)
  rw [← hW]
  have HSZ := Lib.hid hsz
  clear hW hsz
  obtain ⟨q0, q1, q2, q3, _⟩ := blk4 hB.last
  obtain ⟨r0, r1, r2, r3, _⟩ := blk4 hB.now
  go_cut [47] (fun s wx => s = .bool (!decide (alikeD a b)) ∧ W = wx)
  case first =>
    by_cases e1 : a.kind = b.kind
    · by_cases e2 : a.record = b.record
      · by_cases e3 : a.words.length = b.words.length
        · by_cases e4 : a.known.length = b.words.length
          · by_cases e5 : b.known.length = b.words.length
            · have H : Hid (alikeD a b) := Lib.hid ⟨e1, e2, e3, by omega, by omega⟩
              have t1 : (a.kind != b.kind) = false := by simp [e1]
              have t2 : (a.record != b.record) = false := by simp [e2]
              have t3 : ((a.words.length : Int) != (b.words.length : Int)) = false := by simp [e3]
              have t4 : ((a.known.length : Int) != (b.words.length : Int)) = false := by simp [e4]
              have t5 : ((b.known.length : Int) != (b.words.length : Int)) = false := by simp [e5]
              clear e1 e2 e3 e4 e5
              go_wp2_with fail
              go_meet
              exact ⟨by rw [decide_eq_true H.out]; rfl, rfl⟩
            · have H : Hid (¬ alikeD a b) := Lib.hid fun h => e5 (by have := h.2.2.1; have := h.2.2.2.1; have := h.2.2.2.2; omega)
              have t1 : (a.kind != b.kind) = false := by simp [e1]
              have t2 : (a.record != b.record) = false := by simp [e2]
              have t3 : ((a.words.length : Int) != (b.words.length : Int)) = false := by simp [e3]
              have t4 : ((a.known.length : Int) != (b.words.length : Int)) = false := by simp [e4]
              have t5 : ((b.known.length : Int) != (b.words.length : Int)) = true := by simp; omega
              clear e1 e2 e3 e4 e5
              go_wp2_with fail
              go_meet
              exact ⟨by rw [decide_eq_false H.out]; rfl, rfl⟩
          · have H : Hid (¬ alikeD a b) := Lib.hid fun h => e4 (by have := h.2.2.1; have := h.2.2.2.1; have := h.2.2.2.2; omega)
            have t1 : (a.kind != b.kind) = false := by simp [e1]
            have t2 : (a.record != b.record) = false := by simp [e2]
            have t3 : ((a.words.length : Int) != (b.words.length : Int)) = false := by simp [e3]
            have t4 : ((a.known.length : Int) != (b.words.length : Int)) = true := by simp; omega
            clear e1 e2 e3 e4
            go_wp2_with fail
            go_meet
            exact ⟨by rw [decide_eq_false H.out]; rfl, rfl⟩
        · have H : Hid (¬ alikeD a b) := Lib.hid fun h => e3 h.2.2.1
          have t1 : (a.kind != b.kind) = false := by simp [e1]
          have t2 : (a.record != b.record) = false := by simp [e2]
          have t3 : ((a.words.length : Int) != (b.words.length : Int)) = true := by simp; omega
          clear e1 e2 e3
          go_wp2_with fail
          go_meet
          exact ⟨by rw [decide_eq_false H.out]; rfl, rfl⟩
      · have H : Hid (¬ alikeD a b) := Lib.hid fun h => e2 h.2.1
        have t1 : (a.kind != b.kind) = false := by simp [e1]
        have t2 : (a.record != b.record) = true := by simpa using e2
        clear e1 e2
        go_wp2_with fail
        go_meet
        exact ⟨by rw [decide_eq_false H.out]; rfl, rfl⟩
    · have H : Hid (¬ alikeD a b) := Lib.hid fun h => e1 h.1
      have t1 : (a.kind != b.kind) = true := by simpa using e1
      clear e1
      go_wp2_with fail
      go_meet
      exact ⟨by rw [decide_eq_false H.out]; rfl, rfl⟩
  case rest =>
    obtain ⟨rfl, rfl⟩ := hcut
    by_cases hal : alikeD a b
    · rw [decide_eq_true hal, Bool.not_true]
      obtain ⟨HC1, HC2⟩ := out_chk a b hal
      have HC := Lib.hid HC1
      have HCC := Lib.hid HC2
      have HAL := Lib.hid hal
      have l1 : a.known.length = b.words.length := by have := hal.2.2.1; have := hal.2.2.2.2; omega
      have l2 : a.words.length = b.words.length := hal.2.2.1
      have l3 : b.known.length = b.words.length := by have := hal.2.2.1; have := hal.2.2.2.1; have := hal.2.2.2.2; omega
      have L1 := Lib.hid l1
      have L2 := Lib.hid l2
      have L3 := Lib.hid l3
      clear HC1 HC2 hal l1 l2 l3
      go_wp2_with fail
      have hO0 : OutV w (W.alloc (.cells #[.int .i64 b.kind, .int .i64 b.record, .slice none 0 0, .slice none 0 0] 25)) W.heap.size (.slice none 0 0) (.slice none 0 0) a b (.slice A1 a.known.length c1) (.slice A2 a.words.length c2) (.slice A3 b.known.length c3) (.slice A4 b.words.length c4) (outK a b 0) (outW a b 0) :=
        ⟨hB.grow ((Ext.refl W).alloc _), blk_alloc h2 _, heap_alloc_new W _, OwnV.nil _, OwnV.nil _, by have := HSZ.out; omega⟩
      clear q0 q1 q2 q3 r0 r1 r2 r3 hB h2
      generalize W.alloc (.cells #[.int .i64 b.kind, .int .i64 b.record, .slice none 0 0, .slice none 0 0] 25) = wi at *
      clear HSZ
      generalize W.heap.size = g at *
      go_loopw [8, 9, 10, 11] (fun c i _ _ wr => ∃ (k : Nat) (x y : Value), k ≤ b.words.length ∧ i = .int .i64 (k : Int) ∧ c = .bool (stepC a b k) ∧ OutV w wr g x y a b (.slice A1 a.known.length c1) (.slice A2 a.words.length c2) (.slice A3 b.known.length c3) (.slice A4 b.words.length c4) (outK a b k) (outW a b k)) (fun _ i _ _ _ => b.words.length - (intOf i).toNat)
      case atStart => exact ⟨0, _, _, Nat.zero_le _, rfl, rfl, hO0⟩
      case round =>
        clear hO0
        obtain ⟨k, x, y, hk, rfl, rfl, hO⟩ := hrel
        obtain ⟨wo, rfl⟩ : ∃ wo : World, wo = wr := ⟨_, rfl⟩
        by_cases hlt : k < b.words.length
        · have k1 : k < a.known.length := by have := L1.out; omega
          have k2 : k < a.words.length := by have := L2.out; omega
          have k3 : k < b.known.length := by have := L3.out; omega
          have HK0 : Hid (outK a b (k + 1) = outK a b k ++ [if b.known[k] = true then true else a.known[k]]) := Lib.hid (by simp [outK, List.range_succ, List.getD, List.getElem?_eq_getElem k1, List.getElem?_eq_getElem k3])
          have HW0 : Hid (outW a b (k + 1) = outW a b k ++ [if b.known[k] = true then b.words[k] else a.words[k]]) := Lib.hid (by simp [outW, List.range_succ, List.getD, List.getElem?_eq_getElem k2, List.getElem?_eq_getElem k3, List.getElem?_eq_getElem hlt])
          have HS0 : Hid (stepC a b (k + 1) = (stepC a b k || (b.known[k] && a.known[k] && a.words[k] != b.words[k]))) := Lib.hid (by simp [stepC, List.getD, List.getElem?_eq_getElem k1, List.getElem?_eq_getElem k2, List.getElem?_eq_getElem k3, List.getElem?_eq_getElem hlt])
          obtain ⟨b1, o1, rfl, hc1⟩ := (hr1.ext hO.box.ext).bool k1
          obtain ⟨b2, o2, rfl, hc2⟩ := (hr2.ext hO.box.ext).int k2
          obtain ⟨b3, o3, rfl, hc3⟩ := (hr3.ext hO.box.ext).bool k3
          obtain ⟨b4, o4, rfl, hc4⟩ := (hr4.ext hO.box.ext).int hlt
          have i1 : (k : Int) < (a.known.length : Int) := by omega
          have i2 : (k : Int) < (a.words.length : Int) := by omega
          have i3 : (k : Int) < (b.known.length : Int) := by omega
          have i4 : (k : Int) < (b.words.length : Int) := by omega
          generalize a.known[k] = ak at *
          generalize a.words[k] = aw at *
          generalize b.known[k] = bk at *
          generalize b.words[k] = bw at *
          obtain ⟨q0, q1, q2, q3, _⟩ := blk4 hO.box.last
          obtain ⟨r0, r1, r2, r3, _⟩ := blk4 hO.box.now
          obtain ⟨X, cx, rfl, _, _⟩ := hO.ok.inV
          obtain ⟨Y, cy, rfl, _, _⟩ := hO.ow.inV
          obtain ⟨s0, s1, s2, s3, _⟩ := blk4 hO.out
          generalize hst : stepC a b k = st at *
          clear hst
          cases bk with
          | true =>
            have HK : Hid (outK a b (k + 1) = outK a b k ++ [true]) := HK0
            have HW : Hid (outW a b (k + 1) = outW a b k ++ [bw]) := HW0
            clear HK0 HW0
            go_wp2_with fail
            go_quiet (fail)
            replace hO := hO.ext ((Ext.refl wo).drewN nq)
            cases ak with
            | false =>
              have HS : Hid (stepC a b (k + 1) = st) := Lib.hid (by rw [HS0.out]; simp)
              clear HS0
              replace hc1 := ((Ext.refl wo).drewN nq).cell hc1
              replace hc2 := ((Ext.refl wo).drewN nq).cell hc2
              replace hc3 := ((Ext.refl wo).drewN nq).cell hc3
              replace hc4 := ((Ext.refl wo).drewN nq).cell hc4
              clear q0 q1 q2 q3 r0 r1 r2 r3 s0 s1 s2 s3
              generalize wo.drewN nq = w5 at *
              obtain ⟨q0, q1, q2, q3, _⟩ := blk4 hO.box.last
              obtain ⟨r0, r1, r2, r3, _⟩ := blk4 hO.box.now
              obtain ⟨s0, s1, s2, s3, _⟩ := blk4 hO.out
              go_wp2_with (at_builtin; go_must (refine wpList_appendV elem_bool (fun _ => rfl) rfl (.tmp 103) (.tmp 105) rfl w.heap.size (.slice X (outK a b k).length cx) (outK a b k) rfl (hO.ok.ext ((Ext.refl w5).alloc _)) _ [true] rfl (OwnV_new (f := Value.bool) w5 true _).inV (by rw [outK_len]; simp; omega) (by omega) (by simp; have := hO.box.ext.size; omega) (Hold.out ?_)))
              refine Hold.mk fun v1 w6 ho1 hg1 => ?_
              have hO6 := (hO.ext ((Ext.refl w5).alloc (.cells #[.bool true] 4))).advK ho1 hg1.grown
              obtain ⟨V1, d1, rfl, _, _⟩ := ho1.inV
              obtain ⟨q0, q1, q2, q3, f0, f1, f2, f3⟩ := blk4 (blk_grown (hO.ext ((Ext.refl w5).alloc (.cells #[.bool true] 4))).out hg1.grown (fun e2 => hO.ok.ne_blk hO.out (by decide) e2.symm))
              rw [← HK.out] at hO6 ⊢
              have hne6 := hO6.ow
              clear hg1 ho1 hO HK
              generalize (outK a b (k + 1)).length = n1 at *
              have hO7 := hO6.ow
              go_wp2_with (at_builtin; go_must (refine wpList_appendV elem_int (fun _ => rfl) rfl (.tmp 109) (.tmp 111) rfl w.heap.size (.slice Y (outW a b k).length cy) (outW a b k) rfl (hO6.ow.ext ((Ext.refl _).alloc _)) _ [bw] rfl (OwnV_new' (f := iv) (w6.setCell ⟨g, 2, none⟩ (.slice V1 n1 d1)) w6.heap.size (by simp [World.setCell]) bw _).inV (by rw [outW_len]; simp; omega) (by omega) (by simp; have := hO6.box.ext.size; simp at this; omega) (Hold.out ?_)))
              refine Hold.mk fun v2 w7 ho2 hg2 => ?_
              have hO8 := (hO6.ext ((Ext.refl _).alloc (.cells #[.int .i64 bw] 3))).advW ho2 hg2.grown
              obtain ⟨V2, d2, rfl, _, _⟩ := ho2.inV
              clear q0 q1 q2 q3 f0 f1 f2 f3
              obtain ⟨q0, q1, q2, q3, f0, f1, f2, f3⟩ := blk4 (blk_grown (hO6.ext ((Ext.refl _).alloc (.cells #[.int .i64 bw] 3))).out hg2.grown (fun e2 => hO6.ow.ne_blk hO6.out (by decide) e2.symm))
              rw [← HW.out] at hO8 ⊢
              clear hg2 ho2 hO6 hO7 hne6 HW
              generalize (outW a b (k + 1)).length = n2 at *
              go_wp2_with fail
              go_roundw
              case rel => exact ⟨k + 1, _, _, by omega, by go_num, by rw [HS.out], hO8⟩
              case measure => simp [intOf]; omega
            | true =>
              by_cases hab : aw = bw
              · have e6 : (bw != aw) = false := by simp [hab]
                have HS : Hid (stepC a b (k + 1) = st) := Lib.hid (by rw [HS0.out]; simp [hab])
                have HAB := Lib.hid hab
                clear HS0 hab
                replace hc1 := ((Ext.refl wo).drewN nq).cell hc1
                replace hc2 := ((Ext.refl wo).drewN nq).cell hc2
                replace hc3 := ((Ext.refl wo).drewN nq).cell hc3
                replace hc4 := ((Ext.refl wo).drewN nq).cell hc4
                clear q0 q1 q2 q3 r0 r1 r2 r3 s0 s1 s2 s3
                generalize wo.drewN nq = w5 at *
                obtain ⟨q0, q1, q2, q3, _⟩ := blk4 hO.box.last
                obtain ⟨r0, r1, r2, r3, _⟩ := blk4 hO.box.now
                obtain ⟨s0, s1, s2, s3, _⟩ := blk4 hO.out
                go_wp2_with (at_builtin; go_must (refine wpList_appendV elem_bool (fun _ => rfl) rfl (.tmp 103) (.tmp 105) rfl w.heap.size (.slice X (outK a b k).length cx) (outK a b k) rfl (hO.ok.ext ((Ext.refl w5).alloc _)) _ [true] rfl (OwnV_new (f := Value.bool) w5 true _).inV (by rw [outK_len]; simp; omega) (by omega) (by simp; have := hO.box.ext.size; omega) (Hold.out ?_)))
                refine Hold.mk fun v1 w6 ho1 hg1 => ?_
                have hO6 := (hO.ext ((Ext.refl w5).alloc (.cells #[.bool true] 4))).advK ho1 hg1.grown
                obtain ⟨V1, d1, rfl, _, _⟩ := ho1.inV
                obtain ⟨q0, q1, q2, q3, f0, f1, f2, f3⟩ := blk4 (blk_grown (hO.ext ((Ext.refl w5).alloc (.cells #[.bool true] 4))).out hg1.grown (fun e2 => hO.ok.ne_blk hO.out (by decide) e2.symm))
                rw [← HK.out] at hO6 ⊢
                have hne6 := hO6.ow
                clear hg1 ho1 hO HK
                generalize (outK a b (k + 1)).length = n1 at *
                have hO7 := hO6.ow
                go_wp2_with (at_builtin; go_must (refine wpList_appendV elem_int (fun _ => rfl) rfl (.tmp 109) (.tmp 111) rfl w.heap.size (.slice Y (outW a b k).length cy) (outW a b k) rfl (hO6.ow.ext ((Ext.refl _).alloc _)) _ [bw] rfl (OwnV_new' (f := iv) (w6.setCell ⟨g, 2, none⟩ (.slice V1 n1 d1)) w6.heap.size (by simp [World.setCell]) bw _).inV (by rw [outW_len]; simp; omega) (by omega) (by simp; have := hO6.box.ext.size; simp at this; omega) (Hold.out ?_)))
                refine Hold.mk fun v2 w7 ho2 hg2 => ?_
                have hO8 := (hO6.ext ((Ext.refl _).alloc (.cells #[.int .i64 bw] 3))).advW ho2 hg2.grown
                obtain ⟨V2, d2, rfl, _, _⟩ := ho2.inV
                clear q0 q1 q2 q3 f0 f1 f2 f3
                obtain ⟨q0, q1, q2, q3, f0, f1, f2, f3⟩ := blk4 (blk_grown (hO6.ext ((Ext.refl _).alloc (.cells #[.int .i64 bw] 3))).out hg2.grown (fun e2 => hO6.ow.ne_blk hO6.out (by decide) e2.symm))
                rw [← HW.out] at hO8 ⊢
                clear hg2 ho2 hO6 hO7 hne6 HW
                generalize (outW a b (k + 1)).length = n2 at *
                go_wp2_with fail
                go_roundw
                case rel => exact ⟨k + 1, _, _, by omega, by go_num, by rw [HS.out], hO8⟩
                case measure => simp [intOf]; omega
              · have e6 : (bw != aw) = true := by simpa using fun e => hab e.symm
                have HS : Hid (stepC a b (k + 1) = true) := Lib.hid (by rw [HS0.out]; simp [hab])
                clear HS0 hab
                replace hc1 := ((Ext.refl wo).drewN nq).cell hc1
                replace hc2 := ((Ext.refl wo).drewN nq).cell hc2
                replace hc3 := ((Ext.refl wo).drewN nq).cell hc3
                replace hc4 := ((Ext.refl wo).drewN nq).cell hc4
                clear q0 q1 q2 q3 r0 r1 r2 r3 s0 s1 s2 s3
                generalize wo.drewN nq = w5 at *
                obtain ⟨q0, q1, q2, q3, _⟩ := blk4 hO.box.last
                obtain ⟨r0, r1, r2, r3, _⟩ := blk4 hO.box.now
                obtain ⟨s0, s1, s2, s3, _⟩ := blk4 hO.out
                go_wp2_with (at_builtin; go_must (refine wpList_appendV elem_bool (fun _ => rfl) rfl (.tmp 103) (.tmp 105) rfl w.heap.size (.slice X (outK a b k).length cx) (outK a b k) rfl (hO.ok.ext ((Ext.refl w5).alloc _)) _ [true] rfl (OwnV_new (f := Value.bool) w5 true _).inV (by rw [outK_len]; simp; omega) (by omega) (by simp; have := hO.box.ext.size; omega) (Hold.out ?_)))
                refine Hold.mk fun v1 w6 ho1 hg1 => ?_
                have hO6 := (hO.ext ((Ext.refl w5).alloc (.cells #[.bool true] 4))).advK ho1 hg1.grown
                obtain ⟨V1, d1, rfl, _, _⟩ := ho1.inV
                obtain ⟨q0, q1, q2, q3, f0, f1, f2, f3⟩ := blk4 (blk_grown (hO.ext ((Ext.refl w5).alloc (.cells #[.bool true] 4))).out hg1.grown (fun e2 => hO.ok.ne_blk hO.out (by decide) e2.symm))
                rw [← HK.out] at hO6 ⊢
                have hne6 := hO6.ow
                clear hg1 ho1 hO HK
                generalize (outK a b (k + 1)).length = n1 at *
                have hO7 := hO6.ow
                go_wp2_with (at_builtin; go_must (refine wpList_appendV elem_int (fun _ => rfl) rfl (.tmp 109) (.tmp 111) rfl w.heap.size (.slice Y (outW a b k).length cy) (outW a b k) rfl (hO6.ow.ext ((Ext.refl _).alloc _)) _ [bw] rfl (OwnV_new' (f := iv) (w6.setCell ⟨g, 2, none⟩ (.slice V1 n1 d1)) w6.heap.size (by simp [World.setCell]) bw _).inV (by rw [outW_len]; simp; omega) (by omega) (by simp; have := hO6.box.ext.size; simp at this; omega) (Hold.out ?_)))
                refine Hold.mk fun v2 w7 ho2 hg2 => ?_
                have hO8 := (hO6.ext ((Ext.refl _).alloc (.cells #[.int .i64 bw] 3))).advW ho2 hg2.grown
                obtain ⟨V2, d2, rfl, _, _⟩ := ho2.inV
                clear q0 q1 q2 q3 f0 f1 f2 f3
                obtain ⟨q0, q1, q2, q3, f0, f1, f2, f3⟩ := blk4 (blk_grown (hO6.ext ((Ext.refl _).alloc (.cells #[.int .i64 bw] 3))).out hg2.grown (fun e2 => hO6.ow.ne_blk hO6.out (by decide) e2.symm))
                rw [← HW.out] at hO8 ⊢
                clear hg2 ho2 hO6 hO7 hne6 HW
                generalize (outW a b (k + 1)).length = n2 at *
                go_wp2_with fail
                go_roundw
                case rel => exact ⟨k + 1, _, _, by omega, by go_num, by rw [HS.out], hO8⟩
                case measure => simp [intOf]; omega
          | false =>
            have HK : Hid (outK a b (k + 1) = outK a b k ++ [ak]) := HK0
            have HW : Hid (outW a b (k + 1) = outW a b k ++ [aw]) := HW0
            have HS : Hid (stepC a b (k + 1) = st) := Lib.hid (by rw [HS0.out]; simp)
            clear HK0 HW0 HS0
            go_wp2_with fail
            go_quiet (fail)
            replace hO := hO.ext ((Ext.refl wo).drewN nq)
            replace hc1 := ((Ext.refl wo).drewN nq).cell hc1
            replace hc2 := ((Ext.refl wo).drewN nq).cell hc2
            replace hc3 := ((Ext.refl wo).drewN nq).cell hc3
            replace hc4 := ((Ext.refl wo).drewN nq).cell hc4
            clear q0 q1 q2 q3 r0 r1 r2 r3 s0 s1 s2 s3
            generalize wo.drewN nq = w5 at *
            obtain ⟨q0, q1, q2, q3, _⟩ := blk4 hO.box.last
            obtain ⟨r0, r1, r2, r3, _⟩ := blk4 hO.box.now
            obtain ⟨s0, s1, s2, s3, _⟩ := blk4 hO.out
            go_wp2_with fail
            go_quiet (fail)
            replace hO := hO.ext ((Ext.refl w5).drewN nq)
            replace hc1 := ((Ext.refl w5).drewN nq).cell hc1
            replace hc2 := ((Ext.refl w5).drewN nq).cell hc2
            replace hc3 := ((Ext.refl w5).drewN nq).cell hc3
            replace hc4 := ((Ext.refl w5).drewN nq).cell hc4
            clear q0 q1 q2 q3 r0 r1 r2 r3 s0 s1 s2 s3
            generalize w5.drewN nq = w5b at *
            obtain ⟨q0, q1, q2, q3, _⟩ := blk4 hO.box.last
            obtain ⟨r0, r1, r2, r3, _⟩ := blk4 hO.box.now
            obtain ⟨s0, s1, s2, s3, _⟩ := blk4 hO.out
            go_wp2_with (at_builtin; go_must (refine wpList_appendV elem_bool (fun _ => rfl) rfl (.tmp 103) (.tmp 105) rfl w.heap.size (.slice X (outK a b k).length cx) (outK a b k) rfl (hO.ok.ext ((Ext.refl w5b).alloc _)) _ [ak] rfl (OwnV_new (f := Value.bool) w5b ak _).inV (by rw [outK_len]; simp; omega) (by omega) (by simp; have := hO.box.ext.size; omega) (Hold.out ?_)))
            refine Hold.mk fun v1 w6 ho1 hg1 => ?_
            have hO6 := (hO.ext ((Ext.refl w5b).alloc (.cells #[.bool ak] 4))).advK ho1 hg1.grown
            obtain ⟨V1, d1, rfl, _, _⟩ := ho1.inV
            obtain ⟨q0, q1, q2, q3, f0, f1, f2, f3⟩ := blk4 (blk_grown (hO.ext ((Ext.refl w5b).alloc (.cells #[.bool ak] 4))).out hg1.grown (fun e2 => hO.ok.ne_blk hO.out (by decide) e2.symm))
            rw [← HK.out] at hO6 ⊢
            have hne6 := hO6.ow
            clear hg1 ho1 hO HK
            generalize (outK a b (k + 1)).length = n1 at *
            have hO7 := hO6.ow
            go_wp2_with (at_builtin; go_must (refine wpList_appendV elem_int (fun _ => rfl) rfl (.tmp 109) (.tmp 111) rfl w.heap.size (.slice Y (outW a b k).length cy) (outW a b k) rfl (hO6.ow.ext ((Ext.refl _).alloc _)) _ [aw] rfl (OwnV_new' (f := iv) (w6.setCell ⟨g, 2, none⟩ (.slice V1 n1 d1)) w6.heap.size (by simp [World.setCell]) aw _).inV (by rw [outW_len]; simp; omega) (by omega) (by simp; have := hO6.box.ext.size; simp at this; omega) (Hold.out ?_)))
            refine Hold.mk fun v2 w7 ho2 hg2 => ?_
            have hO8 := (hO6.ext ((Ext.refl _).alloc (.cells #[.int .i64 aw] 3))).advW ho2 hg2.grown
            obtain ⟨V2, d2, rfl, _, _⟩ := ho2.inV
            clear q0 q1 q2 q3 f0 f1 f2 f3
            obtain ⟨q0, q1, q2, q3, f0, f1, f2, f3⟩ := blk4 (blk_grown (hO6.ext ((Ext.refl _).alloc (.cells #[.int .i64 aw] 3))).out hg2.grown (fun e2 => hO6.ow.ne_blk hO6.out (by decide) e2.symm))
            rw [← HW.out] at hO8 ⊢
            clear hg2 ho2 hO6 hO7 hne6 HW
            generalize (outW a b (k + 1)).length = n2 at *
            go_wp2_with fail
            go_roundw
            case rel => exact ⟨k + 1, _, _, by omega, by go_num, by rw [HS.out], hO8⟩
            case measure => simp [intOf]; omega
        · obtain rfl : k = b.words.length := by omega
          obtain ⟨X, cx, rfl, _, _⟩ := hO.ok.inV
          obtain ⟨Y, cy, rfl, _, _⟩ := hO.ow.inV
          obtain ⟨s0, s1, s2, s3, _⟩ := blk4 hO.out
          obtain ⟨p0, p1, p2, p3, f0, f1, f2, f3⟩ := blk4 hO.res
          have hD : DatAt wo (.agg #[.int .i64 b.kind, .int .i64 b.record, .slice X (outK a b b.words.length).length cx, .slice Y (outW a b b.words.length).length cy]) ⟨b.kind, b.record, outK a b b.words.length, outW a b b.words.length⟩ := ⟨_, _, rfl, hO.ok.inV, hO.ow.inV⟩
          have hE := hO.box.ext
          have hn1 := hO.ok.ne_blk hO.res (by decide)
          have hn2 := hO.ow.ne_blk hO.res (by decide)
          have hok := hO.ok
          have how := hO.ow
          rw [← HC.out] at hD
          clear hO
          generalize hst : stepC a b b.words.length = st at *
          have HST := Lib.hid hst
          clear hst
          go_wp2
          refine bodyPost_ret (v := .tuple #[.agg #[.int .i64 b.kind, .int .i64 b.record, .slice X (outK a b b.words.length).length cx, .slice Y (outW a b b.words.length).length cy], .bool st]) (by simp [results, Try.results9, go_sem, p0, p1, p2, p3]) rfl ?_
          refine ⟨_, _, rfl, by rw [HCC.out], ?_, ?_⟩
          · rw [HC.out]
            refine ⟨_, _, rfl, ?_, ?_⟩
            · exact ((((hok.set_far (p := ⟨w.heap.size + 2, 0, none⟩) hn1 _).set_far (p := ⟨w.heap.size + 2, 1, none⟩) hn1 _).set_far (p := ⟨w.heap.size + 2, 2, none⟩) hn1 _).set_far (p := ⟨w.heap.size + 2, 3, none⟩) hn1 _).inV
            · exact ((((how.set_far (p := ⟨w.heap.size + 2, 0, none⟩) hn2 _).set_far (p := ⟨w.heap.size + 2, 1, none⟩) hn2 _).set_far (p := ⟨w.heap.size + 2, 2, none⟩) hn2 _).set_far (p := ⟨w.heap.size + 2, 3, none⟩) hn2 _).inV
          · exact (((hE.setCell (p := ⟨w.heap.size + 2, 0, none⟩) (by simp) _).setCell (p := ⟨w.heap.size + 2, 1, none⟩) (by simp) _).setCell (p := ⟨w.heap.size + 2, 2, none⟩) (by simp) _).setCell (p := ⟨w.heap.size + 2, 3, none⟩) (by simp) _
    · rw [decide_eq_false hal, Bool.not_false]
      have HC : Hid (chkD a b = b ∧ (chkC a b ↔ ¬ sameD a b)) := Lib.hid (by unfold chkD chkC; rw [if_neg hal, if_neg hal]; exact ⟨rfl, Iff.rfl⟩)
      have hDb := hV.ext hB.ext
      clear hal q0 q1 q2 q3 r0 r1 r2 r3
      go_wp2_with fail
      refine wp_region_Y (fun W' => Boxes3 w W' a b (.slice A1 a.known.length c1) (.slice A2 a.words.length c2) (.slice A3 b.known.length c3) (.slice A4 b.words.length c4)) #[true, true, true, true, true, true, true] 7 0 (by kernel_rfl) rfl ?_
      have hB' := hB.grow ((Ext.refl W).drew)
      refine wpY_inv _ [0, 1, 2, 3, 4, 5, 6] (fun i => match i with | 0 => 48 | 1 => 49 | 2 => 50 | 3 => 51 | 4 => 52 | 5 => 116 | _ => 5)
        (fun i v W' => match i with
          | 0 => v = .agg #[.int .i64 b.kind, .int .i64 b.record, .slice A3 b.known.length c3, .slice A4 b.words.length c4]
          | 1 => v = .agg #[.int .i64 a.kind, .int .i64 a.record, .slice A1 a.known.length c1, .slice A2 a.words.length c2]
          | 2 => v = .agg #[.int .i64 b.kind, .int .i64 b.record, .slice A3 b.known.length c3, .slice A4 b.words.length c4]
          | 3 => ∃ r : Bool, v = .bool r ∧ (r = true ↔ sameD a b)
          | 5 => W'.heap[w.heap.size + 2]? = some (.cells #[.int .i64 b.kind, .int .i64 b.record, .slice A3 b.known.length c3, .slice A4 b.words.length c4] 25 (0, 0))
          | _ => ∃ r : Bool, v = .bool r ∧ (r = true ↔ ¬ sameD a b))
        (fun i W' => match i with
          | 5 => W'.heap[w.heap.size + 2]? = some (.cells #[.int .i64 0, .int .i64 0, .slice none 0 0, .slice none 0 0] 25 (0, 0))
          | _ => True) 116 (by kernel_rfl) rfl (by decide) rfl ?_ hB' ?_ ?_
      · intro i hi a' W' hsN hS hH ha hw
        simp only [List.mem_cons, List.not_mem_nil, or_false] at hi
        obtain ⟨q0, q1, q2, q3, _⟩ := blk4 hS.last
        obtain ⟨r0, r1, r2, r3, _⟩ := blk4 hS.now
        have p2 : a'.tmps[2]?.getD undef = .pointer (some ⟨w.heap.size, 0, none⟩) := (ha 2 rfl).2
        have p3 : a'.tmps[3]?.getD undef = .pointer (some ⟨w.heap.size + 1, 0, none⟩) := (ha 3 rfl).2
        have p4 : a'.tmps[4]?.getD undef = .pointer (some ⟨w.heap.size + 2, 0, none⟩) := (ha 4 rfl).2
        rcases hi with rfl | rfl | rfl | rfl | rfl | rfl | rfl
        · refine op_make (v := .agg #[.int .i64 b.kind, .int .i64 b.record, .slice A3 b.known.length c3, .slice A4 b.words.length c4]) (W' := W') rfl rfl (by go_simp) ?_
          exact ⟨_, rfl, .inl (by decide), hS, rfl, fun j hj hne => ⟨fun u hu => hu, fun hu => hu⟩⟩
        · refine op_make (v := .agg #[.int .i64 a.kind, .int .i64 a.record, .slice A1 a.known.length c1, .slice A2 a.words.length c2]) (W' := W') rfl rfl (by go_simp) ?_
          exact ⟨_, rfl, .inl (by decide), hS, rfl, fun j hj hne => ⟨fun u hu => hu, fun hu => hu⟩⟩
        · refine op_make (v := .agg #[.int .i64 b.kind, .int .i64 b.record, .slice A3 b.known.length c3, .slice A4 b.words.length c4]) (W' := W') rfl rfl (by go_simp) ?_
          exact ⟨_, rfl, .inl (by decide), hS, rfl, fun j hj hne => ⟨fun u hu => hu, fun hu => hu⟩⟩
        · have v1 := eval_get (hw 1 (by decide) (by kernel_rfl))
          have v2 := eval_get (hw 2 (by decide) (by kernel_rfl))
          simp only at v1 v2
          refine op_call (f := 10) (args := #[.agg #[.int .i64 a.kind, .int .i64 a.record, .slice A1 a.known.length c1, .slice A2 a.words.length c2], .agg #[.int .i64 b.kind, .int .i64 b.record, .slice A3 b.known.length c3, .slice A4 b.words.length c4]]) rfl rfl (by go_simp) ?_
          refine (refEqual_any _ _ a b W' (hU.ext hS.ext) (hV.ext hS.ext) (by omega) (by omega) (by omega) (by omega)).mono ?_
          rintro e w1 ⟨r1, rfl, hr1, he1⟩
          refine ⟨_, rfl, _, rfl, .inl (by decide), hS.grow he1, ⟨r1, rfl, hr1⟩, ?_⟩
          intro j hj hne
          simp only [List.mem_cons, List.not_mem_nil, or_false] at hj
          rcases hj with rfl | rfl | rfl | rfl | rfl | rfl | rfl
          all_goals first | exact absurd rfl hne | exact ⟨fun u hu => he1.heap hu, fun hu => he1.heap hu⟩ | exact ⟨fun u hu => hu, fun hu => hu⟩
        · obtain ⟨r1, v1, hr1⟩ := hw 3 (by decide) (by kernel_rfl)
          replace v1 := eval_get v1
          simp only at v1
          refine op_make (v := .bool (!r1)) (W' := W') rfl rfl (by go_simp) ?_
          exact ⟨_, rfl, .inl (by decide), hS, ⟨!r1, rfl, by cases r1 <;> simp_all⟩, fun j hj hne => ⟨fun u hu => hu, fun hu => hu⟩⟩
        · have v0 := eval_get (hw 0 (by decide) (by kernel_rfl))
          simp only at v0
          obtain ⟨z0, z1, z2, z3, f0, f1, f2, f3⟩ := blk4 hH
          refine op_skip (W' := (((W'.setCell ⟨w.heap.size + 2, 0, none⟩ (.int .i64 b.kind)).setCell ⟨w.heap.size + 2, 1, none⟩ (.int .i64 b.record)).setCell ⟨w.heap.size + 2, 2, none⟩ (.slice A3 b.known.length c3)).setCell ⟨w.heap.size + 2, 3, none⟩ (.slice A4 b.words.length c4)) rfl rfl rfl (by go_simp) ?_
          refine ⟨undef, put_out hsN (by decide) _, .inr rfl, ?_, ?_, ?_⟩
          · exact (((hS.set (p := ⟨w.heap.size + 2, 0, none⟩) (Nat.le_refl _) _).set (p := ⟨w.heap.size + 2, 1, none⟩) (Nat.le_refl _) _).set (p := ⟨w.heap.size + 2, 2, none⟩) (Nat.le_refl _) _).set (p := ⟨w.heap.size + 2, 3, none⟩) (Nat.le_refl _) _
          · have := blk_set (blk_set (blk_set (blk_set hH 0 (.int .i64 b.kind)) 1 (.int .i64 b.record)) 2 (.slice A3 b.known.length c3)) 3 (.slice A4 b.words.length c4)
            simpa using this
          · intro j hj hne
            simp only [List.mem_cons, List.not_mem_nil, or_false] at hj
            rcases hj with rfl | rfl | rfl | rfl | rfl | rfl | rfl
            all_goals first | exact absurd rfl hne | exact ⟨fun u hu => hu, fun hu => hu⟩
        · obtain ⟨r1, v1, hr1⟩ := hw 4 (by decide) (by kernel_rfl)
          replace v1 := eval_get v1
          simp only at v1
          refine op_make (v := .bool r1) (W' := W') rfl rfl (by go_simp) ?_
          exact ⟨_, rfl, .inl (by decide), hS, ⟨r1, rfl, hr1⟩, fun j hj hne => ⟨fun u hu => hu, fun hu => hu⟩⟩
      · intro i hi
        simp only [List.mem_cons, List.not_mem_nil, or_false] at hi
        rcases hi with rfl | rfl | rfl | rfl | rfl | rfl | rfl
        all_goals first | trivial | exact h2
      intro xs W' hS hG
      have g5 := hG 5 (by decide)
      have g6 := hG 6 (by decide)
      simp only at g5 g6
      simp only [putL, List.map_cons, List.map_nil, List.foldl_cons, List.foldl_nil, Act.put]
      simp only [List.setIfInBounds_toArray, List.set_cons_zero, List.set_cons_succ, List.set_nil]
      generalize xs 0 = z0
      generalize xs 1 = z1
      generalize xs 2 = z2
      generalize xs 3 = z3
      generalize xs 4 = z4
      obtain ⟨r6, g6, hr6⟩ := g6
      rw [g6]
      refine tail_seq 7 rfl (by kernel_rfl) ?_
      simp only [List.drop_succ_cons, List.drop_zero]
      obtain ⟨z0, z1, z2, z3, f0, f1, f2, f3⟩ := blk4 g5
      have hE := hS.ext
      clear hS hG g6 hB hB' hDb h2 hU
      go_wp2_with fail
      refine NoPanic.normal ?_
      go_wp2
      refine bodyPost_ret (v := .tuple #[.agg #[.int .i64 b.kind, .int .i64 b.record, .slice A3 b.known.length c3, .slice A4 b.words.length c4], .bool r6]) (by simp [results, Try.results9, go_sem, z0, z1, z2, z3]) rfl ?_
      refine ⟨_, _, rfl, by rw [HC.out.2]; exact hr6, ?_, hE⟩
      rw [HC.out.1]
      exact hV.ext hE
end Go.Proofs.Ytmabaldbilkcjaa
