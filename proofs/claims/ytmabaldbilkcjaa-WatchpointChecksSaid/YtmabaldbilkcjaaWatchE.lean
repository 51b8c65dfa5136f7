/- The contract of watchpoint.Check where the two values are alike. -/
import Derived.Test.YtmabaldbilkcjaaWatchD
namespace Go.Proofs.Ytmabaldbilkcjaa
open Go.RowKit
set_option linter.unusedVariables false

/-- what is remembered, word by word -/
def stepK (b : Dat) (l : List Bool) : Nat → List Bool
  | 0 => l
  | k + 1 => if b.known.getD k false then (stepK b l k).set k true else stepK b l k
def stepW (b : Dat) (l : List Int) : Nat → List Int
  | 0 => l
  | k + 1 => if b.known.getD k false then (stepW b l k).set k (b.words.getD k 0) else stepW b l k
def stepC (a b : Dat) : Nat → Bool
  | 0 => false
  | k + 1 => stepC a b k || (b.known.getD k false && a.known.getD k false && a.words.getD k 0 != b.words.getD k 0)
theorem stepK_len (b : Dat) (l : List Bool) (k : Nat) : (stepK b l k).length = l.length := by
  induction k with
  | zero => rfl
  | succ k ih => rw [stepK]; split <;> simp [ih]
theorem stepW_len (b : Dat) (l : List Int) (k : Nat) : (stepW b l k).length = l.length := by
  induction k with
  | zero => rfl
  | succ k ih => rw [stepW]; split <;> simp [ih]

/-- the four boxes of Check -/
structure Boxes (w wr : World) (g : Nat) (u v s0 s1 s2 s3 : Value) (a b : Dat) (x1 x2 y1 y2 : Value) : Prop where
  last : wr.heap[w.heap.size]? = some (.cells #[.int .i64 a.kind, .int .i64 a.record, x1, x2] 25 (0, 0))
  now : wr.heap[w.heap.size + 1]? = some (.cells #[.int .i64 b.kind, .int .i64 b.record, y1, y2] 25 (0, 0))
  res : wr.heap[w.heap.size + 2]? = some (.cells #[.int .i64 0, .int .i64 0, .slice none 0 0, .slice none 0 0] 25 (0, 0))
  seen : wr.heap[g]? = some (.cells #[s0, s1, s2, s3] 25 (0, 0))
  gt : w.heap.size + 2 < g
  ext : Ext w wr

theorem Boxes.set_ {w wr : World} {g : Nat} {u v s0 s1 s2 s3 : Value} {a b : Dat} {x1 x2 y1 y2 : Value} (h : Boxes w wr g u v s0 s1 s2 s3 a b x1 x2 y1 y2) {α : Type} {f : α → Value} {e : TypeId} {base : Nat} {r : Value} {l : List α} (ho : OwnV f e base wr r l) (hb : w.heap.size ≤ base) (he : e ≠ 25) {p : Addr} (hp : r.ownBlock = some p.block) (z : Value) :
    Boxes w (wr.setCell p z) g u v s0 s1 s2 s3 a b x1 x2 y1 y2 := by
  have n0 : w.heap.size ≠ p.block := fun ee => ho.ne_blk h.last he (by rw [hp, ee])
  have n1 : w.heap.size + 1 ≠ p.block := fun ee => ho.ne_blk h.now he (by rw [hp, ee])
  have n2 : w.heap.size + 2 ≠ p.block := fun ee => ho.ne_blk h.res he (by rw [hp, ee])
  have n3 : g ≠ p.block := fun ee => ho.ne_blk h.seen he (by rw [hp, ee])
  exact ⟨blk_far h.last n0 z, blk_far h.now n1 z, blk_far h.res n2 z, blk_far h.seen n3 z, h.gt, h.ext.setCell (by have := ho.ge _ hp; omega) z⟩

theorem Boxes.drewN {w wr : World} {g : Nat} {u v s0 s1 s2 s3 : Value} {a b : Dat} {x1 x2 y1 y2 : Value} (h : Boxes w wr g u v s0 s1 s2 s3 a b x1 x2 y1 y2) (n : Nat) : Boxes w (wr.drewN n) g u v s0 s1 s2 s3 a b x1 x2 y1 y2 :=
  ⟨h.last, h.now, h.res, h.seen, h.gt, h.ext.drewN n⟩
theorem Boxes.drew {w wr : World} {g : Nat} {u v s0 s1 s2 s3 : Value} {a b : Dat} {x1 x2 y1 y2 : Value} (h : Boxes w wr g u v s0 s1 s2 s3 a b x1 x2 y1 y2) : Boxes w wr.drew g u v s0 s1 s2 s3 a b x1 x2 y1 y2 :=
  ⟨h.last, h.now, h.res, h.seen, h.gt, h.ext.drew⟩
theorem OwnV.drewN {α : Type} {f : α → Value} {e : TypeId} {base : Nat} {w : World} {v : Value} {l : List α} (h : OwnV f e base w v l) (n : Nat) : OwnV f e base (w.drewN n) v l := h
theorem OwnV.drew {α : Type} {f : α → Value} {e : TypeId} {base : Nat} {w : World} {v : Value} {l : List α} (h : OwnV f e base w v l) : OwnV f e base w.drew v l := h

set_option maxHeartbeats 4000000 in
set_option maxRecDepth 100000 in
theorem Check_alike (u v : Value) (a b : Dat) (w : World) (hu : DatAt w u a) (hv : DatAt w v b) (hal : alikeD a b)
    (ha1 : a.known.length ≤ 1073741824) (ha2 : a.words.length ≤ 1073741824) (hb1 : b.known.length ≤ 1073741824) (hb2 : b.words.length ≤ 1073741824) :
    Calls Try.prog 8 #[u, v] w (CheckPost ⟨a.kind, a.record, stepK b a.known b.known.length, stepW b a.words b.known.length⟩ (stepC a b b.known.length = true) w) := by
  have hU := hu
  have hV := hv
  obtain ⟨x, y, rfl, ⟨A1, c1, rfl, _, hra1⟩, ⟨A2, c2, rfl, _, hra2⟩⟩ := hu
  obtain ⟨x', y', rfl, ⟨A3, c3, rfl, _, hrb1⟩, ⟨A4, c4, rfl, _, hrb2⟩⟩ := hv
  go_enter Try.func8, Try.ntmps8
  go_wp2_with fail
  obtain ⟨W, hW, hE, h0, h1, h2⟩ : ∃ W, Hid (W = ((w.alloc (.cells #[.int .i64 a.kind, .int .i64 a.record, .slice A1 a.known.length c1, .slice A2 a.words.length c2] 25)).alloc (.cells #[.int .i64 b.kind, .int .i64 b.record, .slice A3 b.known.length c3, .slice A4 b.words.length c4] 25)).alloc (.cells #[.int .i64 0, .int .i64 0, .slice none 0 0, .slice none 0 0] 25)) ∧ Ext w W ∧
      W.heap[w.heap.size]? = some (.cells #[.int .i64 a.kind, .int .i64 a.record, .slice A1 a.known.length c1, .slice A2 a.words.length c2] 25 (0, 0)) ∧
      W.heap[w.heap.size + 1]? = some (.cells #[.int .i64 b.kind, .int .i64 b.record, .slice A3 b.known.length c3, .slice A4 b.words.length c4] 25 (0, 0)) ∧
      W.heap[w.heap.size + 2]? = some (.cells #[.int .i64 0, .int .i64 0, .slice none 0 0, .slice none 0 0] 25 (0, 0)) := by
    refine ⟨_, Lib.hid rfl, (((Ext.refl w).alloc _).alloc _).alloc _, blk_alloc (blk_alloc (heap_alloc_new w _) _) _, blk_alloc ?_ _, ?_⟩
    · have := heap_alloc_new (w.alloc (.cells #[.int .i64 a.kind, .int .i64 a.record, .slice A1 a.known.length c1, .slice A2 a.words.length c2] 25)) (.cells #[.int .i64 b.kind, .int .i64 b.record, .slice A3 b.known.length c3, .slice A4 b.words.length c4] 25)
      simpa using this
    · have := heap_alloc_new ((w.alloc (.cells #[.int .i64 a.kind, .int .i64 a.record, .slice A1 a.known.length c1, .slice A2 a.words.length c2] 25)).alloc (.cells #[.int .i64 b.kind, .int .i64 b.record, .slice A3 b.known.length c3, .slice A4 b.words.length c4] 25)) (.cells #[.int .i64 0, .int .i64 0, .slice none 0 0, .slice none 0 0] 25)
      simpa using this
  rw [← hW.out]
  refine (alike_any _ _ a b W (hU.ext hE) (hV.ext hE)).mono ?_
  rintro e w1 ⟨r1, rfl, hr1, he1⟩
  obtain rfl : r1 = true := hr1.2 hal
  clear hr1 hW
  have h0' := he1.heap h0
  have h1' := he1.heap h1
  have h2' := he1.heap h2
  have hE1 := hE.trans he1
  clear h0 h1 h2 he1 hE
  obtain ⟨s0, s1, s2, s3, _⟩ := blk4 h0'
  have hal2 := hal
  obtain ⟨H1, H2, H3, H4, H5⟩ := hal2
  have G3 := Lib.hid H3
  have G4 := Lib.hid H4
  have G5 := Lib.hid H5
  clear H1 H2 H3 H4 H5 hal
  go_wp2_with fail
  refine (clone_any _ a w1 (hU.ext hE1) (by omega) (by omega)).mono ?_
  rintro e w2 ⟨v2, rfl, ⟨x2, y2, rfl, hx2, hy2⟩, he2⟩
  have hsz1 : w.heap.size + 3 ≤ w1.heap.size := by
    rcases Nat.lt_or_ge (w.heap.size + 2) w1.heap.size with h | h
    · omega
    · rw [Array.getElem?_eq_none h] at h2'; cases h2'
  have hsz2 := he2.size
  obtain ⟨B1, d1, rfl, _, _⟩ := hx2.inV
  obtain ⟨B2, d2, rfl, _, _⟩ := hy2.inV
  have hw3 : Boxes w (w2.alloc (.cells #[.int .i64 a.kind, .int .i64 a.record, .slice B1 a.known.length d1, .slice B2 a.words.length d2] 25)) w2.heap.size undef undef (.int .i64 a.kind) (.int .i64 a.record) (.slice B1 a.known.length d1) (.slice B2 a.words.length d2) a b (.slice A1 a.known.length c1) (.slice A2 a.words.length c2) (.slice A3 b.known.length c3) (.slice A4 b.words.length c4) :=
    ⟨blk_alloc (he2.heap h0') _, blk_alloc (he2.heap h1') _, blk_alloc (he2.heap h2') _, heap_alloc_new w2 _, by omega, (hE1.trans he2).alloc _⟩
  have hx3 := hx2.ext ((Ext.refl w2).alloc (.cells #[.int .i64 a.kind, .int .i64 a.record, .slice B1 a.known.length d1, .slice B2 a.words.length d2] 25))
  have hy3 := hy2.ext ((Ext.refl w2).alloc (.cells #[.int .i64 a.kind, .int .i64 a.record, .slice B1 a.known.length d1, .slice B2 a.words.length d2] 25))
  obtain ⟨r0, r1, r2, r3, _⟩ := blk4 hw3.now
  go_wp2_with fail
  clear r0 r1 r2 r3 s0 s1 s2 s3 hx2 hy2 h0' h1' h2'
  generalize w2.alloc (.cells #[.int .i64 a.kind, .int .i64 a.record, .slice B1 a.known.length d1, .slice B2 a.words.length d2] 25) = w3 at *
  generalize w2.heap.size = g at *
  have hbase : w.heap.size ≤ w1.heap.size := by omega
  clear hsz1 hsz2 he2 hE1
  go_loopw [7, 25] (fun c i wr => ∃ k : Nat, k ≤ b.known.length ∧ i = .int .i64 (k : Int) ∧ c = .bool (stepC a b k) ∧ OwnV Value.bool 4 w1.heap.size wr (.slice B1 a.known.length d1) (stepK b a.known k) ∧ OwnV iv 3 w1.heap.size wr (.slice B2 a.words.length d2) (stepW b a.words k) ∧ Boxes w wr g undef undef (.int .i64 a.kind) (.int .i64 a.record) (.slice B1 a.known.length d1) (.slice B2 a.words.length d2) a b (.slice A1 a.known.length c1) (.slice A2 a.words.length c2) (.slice A3 b.known.length c3) (.slice A4 b.words.length c4)) (fun _ i _ => b.known.length - (intOf i).toNat)
  case atStart => exact ⟨0, Nat.zero_le _, rfl, rfl, hx3, hy3, hw3⟩
  case round =>
    clear hx3 hy3 hw3
    obtain ⟨k, hk, rfl, rfl, hx3, hy3, hw3⟩ := hrel
    by_cases hlt : k < b.known.length
    · have e3 := G3.out
      have e4 := G4.out
      have e5 := G5.out
      have lt1 : k < a.known.length := by omega
      have lt2 : k < a.words.length := by omega
      have lt3 : k < b.words.length := by omega
      have ltk : k < (stepK b a.known k).length := by rw [stepK_len]; exact lt1
      have ltw : k < (stepW b a.words k).length := by rw [stepW_len]; exact lt2
      obtain ⟨b3, o3, rfl, hc3⟩ := (hrb1.ext hw3.ext).bool hlt
      obtain ⟨b4, o4, rfl, hc4⟩ := (hrb2.ext hw3.ext).int lt3
      obtain ⟨b1, o1, rfl, hc1⟩ := (hra1.ext hw3.ext).bool lt1
      obtain ⟨b2, o2, rfl, hc2⟩ := (hra2.ext hw3.ext).int lt2
      obtain ⟨gk, capk, ek, hgk, _⟩ := hx3.form (by omega)
      injection ek with ek1 ek2 ek3
      subst ek1
      obtain ⟨gw, capw, ew, hgw, _⟩ := hy3.form (by omega)
      injection ew with ew1 ew2 ew3
      subst ew1
      clear ek2 ek3 ew2 ew3 capk capw
      obtain ⟨hck, hfk⟩ := hx3.at_ (by rw [stepK_len]) k ltk
      obtain ⟨hcw, hfw⟩ := hy3.at_ (by rw [stepW_len]) k ltw
      have hi1 : (k : Int) < (a.known.length : Int) := by omega
      have hi2 : (k : Int) < (a.words.length : Int) := by omega
      have hi3 : (k : Int) < (b.known.length : Int) := by omega
      have hi4 : (k : Int) < (b.words.length : Int) := by omega
      clear e3 e4 e5
      have Kb : Hid (b.known.getD k false = b.known[k]) := Lib.hid (by simp [List.getD, List.getElem?_eq_getElem hlt])
      have Ka : Hid (a.known.getD k false = a.known[k]) := Lib.hid (by simp [List.getD, List.getElem?_eq_getElem lt1])
      have Wa : Hid (a.words.getD k 0 = a.words[k]) := Lib.hid (by simp [List.getD, List.getElem?_eq_getElem lt2])
      have Wb : Hid (b.words.getD k 0 = b.words[k]) := Lib.hid (by simp [List.getD, List.getElem?_eq_getElem lt3])
      generalize b.known[k] = kb at *
      generalize a.known[k] = ka at *
      generalize a.words[k] = wa at *
      generalize b.words[k] = wb at *
      generalize (stepK b a.known k)[k] = ok at *
      generalize (stepW b a.words k)[k] = ow at *
      obtain ⟨l0, l1, l2, l3, _⟩ := blk4 hw3.last
      obtain ⟨n0, n1, n2, n3, _⟩ := blk4 hw3.now
      obtain ⟨s0, s1, s2, s3, _⟩ := blk4 hw3.seen
      cases kb with
      | false =>
        go_wp2_with fail
        go_roundw
        case rel => exact ⟨k + 1, by omega, by go_num, by rw [stepC, Kb.out]; simp, by rw [stepK, Kb.out]; exact hx3, by rw [stepW, Kb.out]; exact hy3, hw3⟩
        case measure => simp [intOf]; omega
      | true =>
        cases ka with
        | false =>
          go_wp2_with fail
          go_quiet (fail)
          go_wp2_with fail
          have hx4 := ((hx3.drewN nq).put (by rw [stepK_len]) k true).1
          have hne1 : gw ≠ gk := fun e => by
            rcases hy3.ne hx3 (by decide) with h | h
            · cases h
            · exact h (by simp [Value.ownBlock, e])
          have hy4 := (hy3.drewN nq).set_far (p := ⟨gk, k, none⟩) (by simpa [Value.ownBlock] using hne1) (.bool true)
          have hw4 := (hw3.drewN nq).set_ (hx3.drewN nq) hbase (by decide) (p := ⟨gk, k, none⟩) rfl (.bool true)
          clear hx3 hy3 hw3 l0 l1 l2 l3 n0 n1 n2 n3 s0 s1 s2 s3 hc1 hc2 hc3 hck hcw hfk hfw
          generalize (wr.drewN nq).setCell ⟨gk, k, none⟩ (.bool true) = w5 at *
          obtain ⟨n0, n1, n2, n3, _⟩ := blk4 hw4.now
          obtain ⟨s0, s1, s2, s3, _⟩ := blk4 hw4.seen
          obtain ⟨hcw, hfw⟩ := hy4.at_ (by rw [stepW_len]) k ltw
          obtain ⟨b4', o4', e4', hc4'⟩ := (hrb2.ext hw4.ext).int lt3
          injection e4' with e4'
          injection e4' with e41 e42
          subst e41 e42
          have Wb2 : Hid (b.words[k] = wb) := Lib.hid (by have := Wb.out; simpa [List.getD, List.getElem?_eq_getElem lt3] using this)
          rw [Wb2.out] at hc4'
          generalize (stepW b a.words k)[k] = ow2 at *
          unfold iv at hcw
          have hy5 := (hy4.put (by rw [stepW_len]) k wb).1
          have hx5 := hx4.set_far (p := ⟨gw, k, none⟩) (by simpa [Value.ownBlock] using hne1.symm) (iv wb)
          have hw5 := hw4.set_ hy4 hbase (by decide) (p := ⟨gw, k, none⟩) rfl (iv wb)
          obtain ⟨_, _, _, n3', _⟩ := blk4 hw5.now
          obtain ⟨_, _, _, s3', _⟩ := blk4 hw5.seen
          obtain ⟨b4', o4', e4', hc5'⟩ := (hrb2.ext hw5.ext).int lt3
          injection e4' with e4'
          injection e4' with e41 e42
          subst e41 e42
          rw [Wb2.out] at hc5'
          unfold iv at hx5 hw5 n3' s3' hc5'
          have hy5' : OwnV iv 3 w1.heap.size (w5.setCell ⟨gw, k, none⟩ (.int .i64 wb)) (.slice (some ⟨gw, 0, none⟩) a.words.length d2) ((stepW b a.words k).set k wb) := hy5
          clear hy5
          go_wp2_with fail
          go_region_held3 (fun W' => W'.cell? ⟨g, 3, none⟩ = some (.slice (some ⟨gw, 0, none⟩) a.words.length d2) ∧ W'.cell? ⟨w.heap.size + 1, 3, none⟩ = some (.slice (some ⟨b4, o4, none⟩) b.words.length c4) ∧ W'.cell? ⟨b4, o4 + k, none⟩ = some (.int .i64 wb))
            (first | exact ⟨s3, n3, hc4'⟩ | exact ⟨s3', n3', hc5'⟩) (fail)
          go_wp2_with fail
          go_roundw
          case rel => exact ⟨k + 1, by omega, by go_num, by rw [stepC, Kb.out, Ka.out]; simp, by rw [stepK, Kb.out]; exact hx5, by rw [stepW, Kb.out, Wb.out]; exact hy5', hw5.drew⟩
          case measure => simp [intOf]; omega
        | true =>
          by_cases hwab : wa = wb
          · have ew : (wa != wb) = false := by simp [hwab]
            have Hwab := Lib.hid hwab
            clear hwab
            go_wp2_with fail
            go_quiet (fail)
            go_wp2_with fail
            have hx4 := ((hx3.drewN nq).put (by rw [stepK_len]) k true).1
            have hne1 : gw ≠ gk := fun e => by
              rcases hy3.ne hx3 (by decide) with h | h
              · cases h
              · exact h (by simp [Value.ownBlock, e])
            have hy4 := (hy3.drewN nq).set_far (p := ⟨gk, k, none⟩) (by simpa [Value.ownBlock] using hne1) (.bool true)
            have hw4 := (hw3.drewN nq).set_ (hx3.drewN nq) hbase (by decide) (p := ⟨gk, k, none⟩) rfl (.bool true)
            clear hx3 hy3 hw3 l0 l1 l2 l3 n0 n1 n2 n3 s0 s1 s2 s3 hc1 hc2 hc3 hck hcw hfk hfw
            generalize (wr.drewN nq).setCell ⟨gk, k, none⟩ (.bool true) = w5 at *
            obtain ⟨n0, n1, n2, n3, _⟩ := blk4 hw4.now
            obtain ⟨s0, s1, s2, s3, _⟩ := blk4 hw4.seen
            obtain ⟨hcw, hfw⟩ := hy4.at_ (by rw [stepW_len]) k ltw
            obtain ⟨b4', o4', e4', hc4'⟩ := (hrb2.ext hw4.ext).int lt3
            injection e4' with e4'
            injection e4' with e41 e42
            subst e41 e42
            have Wb2 : Hid (b.words[k] = wb) := Lib.hid (by have := Wb.out; simpa [List.getD, List.getElem?_eq_getElem lt3] using this)
            rw [Wb2.out] at hc4'
            generalize (stepW b a.words k)[k] = ow2 at *
            unfold iv at hcw
            have hy5 := (hy4.put (by rw [stepW_len]) k wb).1
            have hx5 := hx4.set_far (p := ⟨gw, k, none⟩) (by simpa [Value.ownBlock] using hne1.symm) (iv wb)
            have hw5 := hw4.set_ hy4 hbase (by decide) (p := ⟨gw, k, none⟩) rfl (iv wb)
            obtain ⟨_, _, _, n3', _⟩ := blk4 hw5.now
            obtain ⟨_, _, _, s3', _⟩ := blk4 hw5.seen
            obtain ⟨b4', o4', e4', hc5'⟩ := (hrb2.ext hw5.ext).int lt3
            injection e4' with e4'
            injection e4' with e41 e42
            subst e41 e42
            rw [Wb2.out] at hc5'
            unfold iv at hx5 hw5 n3' s3' hc5'
            have hy5' : OwnV iv 3 w1.heap.size (w5.setCell ⟨gw, k, none⟩ (.int .i64 wb)) (.slice (some ⟨gw, 0, none⟩) a.words.length d2) ((stepW b a.words k).set k wb) := hy5
            clear hy5
            go_wp2_with fail
            go_region_held3 (fun W' => W'.cell? ⟨g, 3, none⟩ = some (.slice (some ⟨gw, 0, none⟩) a.words.length d2) ∧ W'.cell? ⟨w.heap.size + 1, 3, none⟩ = some (.slice (some ⟨b4, o4, none⟩) b.words.length c4) ∧ W'.cell? ⟨b4, o4 + k, none⟩ = some (.int .i64 wb))
              (first | exact ⟨s3, n3, hc4'⟩ | exact ⟨s3', n3', hc5'⟩) (fail)
            go_wp2_with fail
            go_roundw
            case rel => exact ⟨k + 1, by omega, by go_num, by rw [stepC, Kb.out, Ka.out, Wa.out, Wb.out, ew]; simp, by rw [stepK, Kb.out]; exact hx5, by rw [stepW, Kb.out, Wb.out]; exact hy5', hw5.drew⟩
            case measure => simp [intOf]; omega
          · have ew : (wa != wb) = true := by simpa using hwab
            have Hwab := Lib.hid hwab
            clear hwab
            go_wp2_with fail
            go_quiet (fail)
            go_wp2_with fail
            have hx4 := ((hx3.drewN nq).put (by rw [stepK_len]) k true).1
            have hne1 : gw ≠ gk := fun e => by
              rcases hy3.ne hx3 (by decide) with h | h
              · cases h
              · exact h (by simp [Value.ownBlock, e])
            have hy4 := (hy3.drewN nq).set_far (p := ⟨gk, k, none⟩) (by simpa [Value.ownBlock] using hne1) (.bool true)
            have hw4 := (hw3.drewN nq).set_ (hx3.drewN nq) hbase (by decide) (p := ⟨gk, k, none⟩) rfl (.bool true)
            clear hx3 hy3 hw3 l0 l1 l2 l3 n0 n1 n2 n3 s0 s1 s2 s3 hc1 hc2 hc3 hck hcw hfk hfw
            generalize (wr.drewN nq).setCell ⟨gk, k, none⟩ (.bool true) = w5 at *
            obtain ⟨n0, n1, n2, n3, _⟩ := blk4 hw4.now
            obtain ⟨s0, s1, s2, s3, _⟩ := blk4 hw4.seen
            obtain ⟨hcw, hfw⟩ := hy4.at_ (by rw [stepW_len]) k ltw
            obtain ⟨b4', o4', e4', hc4'⟩ := (hrb2.ext hw4.ext).int lt3
            injection e4' with e4'
            injection e4' with e41 e42
            subst e41 e42
            have Wb2 : Hid (b.words[k] = wb) := Lib.hid (by have := Wb.out; simpa [List.getD, List.getElem?_eq_getElem lt3] using this)
            rw [Wb2.out] at hc4'
            generalize (stepW b a.words k)[k] = ow2 at *
            unfold iv at hcw
            have hy5 := (hy4.put (by rw [stepW_len]) k wb).1
            have hx5 := hx4.set_far (p := ⟨gw, k, none⟩) (by simpa [Value.ownBlock] using hne1.symm) (iv wb)
            have hw5 := hw4.set_ hy4 hbase (by decide) (p := ⟨gw, k, none⟩) rfl (iv wb)
            obtain ⟨_, _, _, n3', _⟩ := blk4 hw5.now
            obtain ⟨_, _, _, s3', _⟩ := blk4 hw5.seen
            obtain ⟨b4', o4', e4', hc5'⟩ := (hrb2.ext hw5.ext).int lt3
            injection e4' with e4'
            injection e4' with e41 e42
            subst e41 e42
            rw [Wb2.out] at hc5'
            unfold iv at hx5 hw5 n3' s3' hc5'
            have hy5' : OwnV iv 3 w1.heap.size (w5.setCell ⟨gw, k, none⟩ (.int .i64 wb)) (.slice (some ⟨gw, 0, none⟩) a.words.length d2) ((stepW b a.words k).set k wb) := hy5
            clear hy5
            go_wp2_with fail
            go_region_held3 (fun W' => W'.cell? ⟨g, 3, none⟩ = some (.slice (some ⟨gw, 0, none⟩) a.words.length d2) ∧ W'.cell? ⟨w.heap.size + 1, 3, none⟩ = some (.slice (some ⟨b4, o4, none⟩) b.words.length c4) ∧ W'.cell? ⟨b4, o4 + k, none⟩ = some (.int .i64 wb))
              (first | exact ⟨s3, n3, hc4'⟩ | exact ⟨s3', n3', hc5'⟩) (fail)
            go_wp2_with fail
            go_roundw
            case rel => exact ⟨k + 1, by omega, by go_num, by rw [stepC, Kb.out, Ka.out, Wa.out, Wb.out, ew]; simp, by rw [stepK, Kb.out]; exact hx5, by rw [stepW, Kb.out, Wb.out]; exact hy5', hw5.drew⟩
            case measure => simp [intOf]; omega
    · obtain rfl : k = b.known.length := by omega
      obtain ⟨s0, s1, s2, s3, _⟩ := blk4 hw3.seen
      obtain ⟨p0, p1, p2, p3, f0, f1, f2, f3⟩ := blk4 hw3.res
      have hn1 := hx3.ne_blk hw3.res (by decide)
      have hn2 := hy3.ne_blk hw3.res (by decide)
      have hexw := hw3.ext
      have hgt := hw3.gt
      have lk := stepK_len b a.known b.known.length
      have lw := stepW_len b a.words b.known.length
      generalize stepK b a.known b.known.length = LK at *
      generalize stepW b a.words b.known.length = LW at *
      generalize stepC a b b.known.length = cb at *
      have Lk := Lib.hid lk
      have Lw := Lib.hid lw
      clear lk lw hw3 hlt
      go_wp2
      refine bodyPost_ret (v := .tuple #[.agg #[.int .i64 a.kind, .int .i64 a.record, .slice B1 a.known.length d1, .slice B2 a.words.length d2], .bool cb]) (by simp [results, Try.results8, go_sem, p0, p1, p2, p3]) rfl ?_
      refine ⟨_, _, rfl, Iff.rfl, ⟨_, _, rfl, ?_, ?_⟩, ?_⟩
      · exact ((((hx3.set_far (p := ⟨w.heap.size + 2, 0, none⟩) hn1 _).set_far (p := ⟨w.heap.size + 2, 1, none⟩) hn1 _).set_far (p := ⟨w.heap.size + 2, 2, none⟩) hn1 _).set_far (p := ⟨w.heap.size + 2, 3, none⟩) hn1 _).low (by first | exact hbase | omega)
      · exact ((((hy3.set_far (p := ⟨w.heap.size + 2, 0, none⟩) hn2 _).set_far (p := ⟨w.heap.size + 2, 1, none⟩) hn2 _).set_far (p := ⟨w.heap.size + 2, 2, none⟩) hn2 _).set_far (p := ⟨w.heap.size + 2, 3, none⟩) hn2 _).low (by first | exact hbase | omega)
      · exact (((hexw.setCell (p := ⟨w.heap.size + 2, 0, none⟩) (by simp) _).setCell (p := ⟨w.heap.size + 2, 1, none⟩) (by simp) _).setCell (p := ⟨w.heap.size + 2, 2, none⟩) (by simp) _).setCell (p := ⟨w.heap.size + 2, 3, none⟩) (by simp) _
end Go.Proofs.Ytmabaldbilkcjaa
