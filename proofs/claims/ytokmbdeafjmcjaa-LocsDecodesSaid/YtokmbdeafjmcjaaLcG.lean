/- The bytes of location lists; the closures of locs.Encode. -/
import Derived.Test.YtokmbdeafjmcjaaLcE
import Derived.Test.YtokmbdeafjmcjaaCfE
import Derived.Laws.EntriesVeiled
namespace Go.Proofs.Ytokmbdeafjmcjaa
open Go.RowKit
set_option linter.unusedVariables false
set_option linter.unusedSimpArgs false

def pkB (p : Plc) : UInt8 := UInt8.ofNat (p.kind + if p.add = 0 then 0 else 8).toNat
def pnB (p : Plc) : List UInt8 := if p.kind = 1 then [] else uintB p.n
def paB (p : Plc) : List UInt8 := if p.add = 0 then [] else leb (zig p.add)
def encPl (p : Plc) : List UInt8 := ([pkB p] ++ pnB p) ++ paB p
def encRng (was : Int) (r : Rng) : List UInt8 := numB [r.lo - was, r.hi - r.lo, r.ctx, r.var, r.piece, (r.places.length : Int)] ++ r.places.flatMap encPl
def encRngs (was : Int) : List Rng → List UInt8
  | [] => []
  | r :: l => encRng was r ++ encRngs r.lo l
def lastLo (was : Int) : List Rng → Int
  | [] => was
  | r :: l => lastLo r.lo l
theorem lastLo_snoc (r : Rng) : ∀ (l : List Rng) (was : Int), lastLo was (l ++ [r]) = r.lo
  | [], _ => rfl
  | x :: l, was => lastLo_snoc r l x.lo
theorem encRngs_snoc (r : Rng) : ∀ (l : List Rng) (was : Int), encRngs was (l ++ [r]) = encRngs was l ++ encRng (lastLo was l) r
  | [], was => by simp [encRngs, lastLo]
  | x :: l, was => by
    simp only [List.cons_append, encRngs, lastLo]
    rw [encRngs_snoc r l x.lo, List.append_assoc]
def encPT (t : PTab) : List UInt8 := numB [t.lo, t.hi, (t.ranges.length : Int)] ++ encRngs t.lo t.ranges
def encPs (l : List PTab) : List UInt8 := numB [(l.length : Int)] ++ l.flatMap encPT
open Classical in
noncomputable def EncP (l : List PTab) : List UInt8 := if RightP l then (if (encPs l).length ≤ 60000 then encPs l else []) else []
/-- places whose Add is a number of the program -/
def AddsIn (l : List PTab) : Prop := ∀ t ∈ l, ∀ r ∈ t.ranges, ∀ p ∈ r.places, I64 p.add
theorem okPlc.kind_ {p : Plc} (h : okPlc p) : 1 ≤ p.kind ∧ p.kind ≤ 4 ∧ 0 ≤ p.n ∧ p.n ≤ 4095 := by
  unfold okPlc at h
  omega
theorem pnB_len {p : Plc} (h : okPlc p) : (pnB p).length ≤ 10 := by
  unfold pnB
  split
  · simp
  · exact uintB_len (by have := h.kind_; omega)
theorem paB_len {p : Plc} (h : I64 p.add) : (paB p).length ≤ 10 := by
  unfold paB
  split
  · simp
  · exact leb_len10 (zig_lt h.1 h.2)
theorem encPl_len {p : Plc} (h : okPlc p) (h2 : I64 p.add) : (encPl p).length ≤ 21 := by
  unfold encPl
  have h1 := pnB_len h
  have h3 := paB_len h2
  simp only [List.length_append, List.length_cons, List.length_nil]
  omega
set_option maxRecDepth 100000 in
theorem unsigned19 (base g : Nat) (l : List UInt8) (v : Int) (w : World) (hb : Buf base g w l) (hs : base ≤ w.heap.size) (hl : l.length ≤ 9000000) (hv : -9223372036854775808 ≤ v ∧ v ≤ 9223372036854775807) :
    Calls Try.prog 71 #[.int .i64 v, .pointer (some ⟨g, 0, none⟩)] w (BufPost base g (l ++ uintB v) w) := by
  obtain ⟨y, hblk, ho⟩ := hb
  obtain ⟨A, c, rfl, _, _⟩ := ho.inV
  have c0 := blk_at hblk 0 _ rfl
  go_enter Try.func71, Try.ntmps71
  go_upto_region 0 with fail
  refine wp_region_X #[true, true, true, false, false] 3 2 (by kernel_rfl) rfl ?_
  refine wpX_vt 0 (.slice A l.length c) rfl rfl (by kernel_rfl) (by kernel_rfl) (by kernel_rfl) (fun _ _ _ _ h => h) (by kernel_rfl) rfl (by rfl) (fun W' hW => by
    have z := (((Ext.refl w).drew).trans hW).cell c0
    go_simp) ?_
  simp only [List.setIfInBounds_toArray, List.set_cons_zero, List.set_cons_succ]
  refine wpX_vt 1 (.int .i64 v) rfl rfl (by kernel_rfl) (by kernel_rfl) (by kernel_rfl) (fun _ _ _ _ h => h) (by kernel_rfl) rfl (by rfl) (fun W' hW => by
    skip
    go_simp) ?_
  simp only [List.setIfInBounds_toArray, List.set_cons_zero, List.set_cons_succ]
  refine wpX_c 2 57 #[.slice none 0 0, .int .i64 v] rfl rfl (by kernel_rfl) rfl rfl (fun W => by go_simp) ?_
  intro W1 hW1
  have hX1 := ((Ext.refl w).drew).trans hW1
  refine (AppendUint_any _ [] v W1 (InV.nil W1) (by simp) hv.2).mono ?_
  rintro en w5 ⟨y5, rfl, ho5, he5⟩
  have hi5 : InB w5 y5 (uintB v) := by simpa using ho5.toV.inV
  refine ⟨_, rfl, he5, ?_⟩
  simp only [List.setIfInBounds_toArray, List.set_cons_zero, List.set_cons_succ]
  refine wpX_end rfl fun W7 hW7 => tail_seq 3 rfl (by kernel_rfl) ?_
  simp only [List.drop_succ_cons, List.drop_zero]
  have hX7 := (hX1.trans he5).trans hW7
  have hi7 := hi5.ext hW7
  have hblk7 := hX7.heap hblk
  have ho7 := ho.ext hX7
  have hln : (uintB v).length ≤ 100 := Nat.le_trans (uintB_len hv.2) (by omega)
  have hHLN := Lib.hid hln
  have hs7 := Nat.le_trans hs hX7.size
  clear hln hW1 hX1 hW7 hi5 ho5 he5 c0 hblk ho
  go_wp2_with (at_builtin; go_must (refine wpList_appendV elem_u8 (fun _ => rfl) rfl (.tmp 3) (.tmp 5) rfl base _ l rfl ho7 _ (uintB v) rfl hi7 (by have := hHLN.out; omega) (by omega) hs7 (Hold.out ?_)))
  refine Hold.mk fun v9 w9 ho9 hg9 => ?_
  obtain ⟨hB, hO, hblk9⟩ := Buf.put hblk7 ho7 ho9 hg9
  have f0 := blk_free hblk9 0
  have q0 := blk_at hblk9 0 _ rfl
  have hlt := heap_lt hblk9
  have hOO := (Only.of_ext (base := base) (g := g) hX7).trans hO
  obtain ⟨V9, d9, hv9, _, _⟩ := ho9.inV
  obtain ⟨n9, hn9⟩ : ∃ n9, n9 = (l ++ uintB v).length := ⟨_, rfl⟩
  rw [← hn9] at hv9
  subst hv9
  clear hn9
  clear ho9 hg9 hO hblk7 ho7 hi7 hX7 hblk9
  go_wp2_with fail
  refine NoPanic.normal ?_
  go_wp2_with fail
  refine bodyPost_ret (by simp [results, Try.results71, go_sem]; rfl) rfl ?_
  exact ⟨_, rfl, hB, hOO⟩
/-- the closure that appends a number -/
def cloV (g : Nat) : Value := .func (.func 71) #[] #[.pointer (some ⟨g, 0, none⟩)]
structure LS (base g g4 gp : Nat) (p : Plc) (w0 : World) (cur : List UInt8) (W : World) : Prop where
  buf : Buf base g W cur
  clo : W.heap[g4]? = some (.cells #[cloV g] 93 (0, 0))
  box : W.heap[gp]? = some (.cells #[.int .i64 p.kind, .int .i64 p.n, .int .i64 p.add] 75 (0, 0))
  only : Only base g w0 W
  size : base ≤ W.heap.size
theorem LS.next {base g g4 gp : Nat} {p : Plc} {w0 W W' : World} {cur cu : List UInt8} (h : LS base g g4 gp p w0 cur W) (hb : Buf base g W' cu) (ho : Only base g W W') : LS base g g4 gp p w0 cu W' :=
  ⟨hb, ho.box h.clo (h.buf.ne h.clo (by decide)) (by decide), ho.box h.box (h.buf.ne h.box (by decide)) (by decide), h.only.trans ho, Nat.le_trans h.size ho.size⟩
theorem blk3 {w : World} {g : Nat} {a b c : Value} {t : TypeId} (H : w.heap[g]? = some (.cells #[a, b, c] t (0, 0))) :
    w.cell? ⟨g, 0, none⟩ = some a ∧ w.cell? ⟨g, 1, none⟩ = some b ∧ w.cell? ⟨g, 2, none⟩ = some c := ⟨blk_at H 0 _ rfl, blk_at H 1 _ rfl, blk_at H 2 _ rfl⟩
set_option maxHeartbeats 4000000 in
set_option maxRecDepth 100000 in
theorem place19 (base g g4 : Nat) (l : List UInt8) (p : Plc) (w : World) (hb : Buf base g w l) (h4 : w.heap[g4]? = some (.cells #[cloV g] 93 (0, 0))) (hs : base ≤ w.heap.size) (hl : l.length ≤ 8000000) (hp : okPlc p) (ha : I64 p.add) :
    Calls Try.prog 72 #[.agg #[.int .i64 p.kind, .int .i64 p.n, .int .i64 p.add], .pointer (some ⟨g, 0, none⟩), .pointer (some ⟨g4, 0, none⟩)] w (BufPost base g (l ++ encPl p) w) := by
  have hkn := hp.kind_
  have hpn := pnB_len hp
  have HP := Lib.hid hp
  unfold I64 at ha
  obtain ⟨kk, hkk⟩ : ∃ kk : Int, kk = p.kind + if p.add = 0 then 0 else 8 := ⟨_, rfl⟩
  have hk16 : 1 ≤ kk ∧ kk ≤ 12 := by rw [hkk]; split <;> omega
  have HBK : Hid (Value.int .u8 kk = bv (pkB p)) := Lib.hid (by
    unfold pkB bv
    rw [← hkk]
    have : ((UInt8.ofNat kk.toNat).toNat : Int) = kk := by
      rw [UInt8.toNat_ofNat']
      omega
    rw [this])
  have HKK := Lib.hid hkk
  have wk : IntKind.u8.wrap kk = kk := by rw [IntKind.wrap_u8]; omega
  have HENC : Hid (encPl p = ([pkB p] ++ pnB p) ++ paB p) := Lib.hid rfl
  clear hkk hp
  go_enter Try.func72, Try.ntmps72
  go_upto_if 9 with fail
  have hA := (Ext.refl w).alloc (.cells #[.int .i64 p.kind, .int .i64 p.n, .int .i64 p.add] 75)
  have hLS : LS base g g4 w.heap.size p w l (w.alloc (.cells #[.int .i64 p.kind, .int .i64 p.n, .int .i64 p.add] 75)) := ⟨hb.ext hA, hA.heap h4, heap_alloc_new w _, Only.of_ext hA, Nat.le_trans hs hA.size⟩
  generalize w.alloc (.cells #[.int .i64 p.kind, .int .i64 p.n, .int .i64 p.add] 75) = W at *
  obtain ⟨gp, hgp⟩ : ∃ gp, gp = w.heap.size := ⟨_, rfl⟩
  rw [← hgp] at hLS ⊢
  clear hgp hA hb h4 hs
  obtain ⟨r0, r1, r2⟩ := blk3 hLS.box
  go_cut [4] (fun s wx => s = .int .i64 kk ∧ W = wx)
  case first =>
    by_cases h0 : p.add = 0
    · have d : (p.add != 0) = false := by simp [h0]
      have e : p.kind = kk := by rw [HKK.out, if_pos h0]; omega
      have HE := Lib.hid e
      clear h0 e
      go_wp2_with fail
      go_meet
      exact ⟨by rw [HE.out], rfl⟩
    · have d : (p.add != 0) = true := by simp [h0]
      have e : p.kind + 8 = kk := by rw [HKK.out, if_neg h0]
      have e2 : IntKind.i64.wrap (p.kind + 8) = kk := by rw [e]; exact wrap_in19 (by omega)
      clear h0 e
      go_wp2_with fail
      go_meet
      exact ⟨rfl, rfl⟩
  obtain ⟨rfl, rfl⟩ := hcut
  have hBF := hLS.buf
  have hsz := hLS.size
  obtain ⟨r0, r1, r2⟩ := blk3 hLS.box
  obtain ⟨y5, hbk5, hoo5⟩ := hBF
  obtain ⟨A5, c5, hy5, _, _⟩ := hoo5.inV
  obtain ⟨n5, hn5⟩ : ∃ n5, n5 = (l).length := ⟨_, rfl⟩
  have hcl5 : n5 ≤ 9000000 := by rw [hn5]; omega
  rw [← hn5] at hy5
  subst hy5
  have HN5 := Lib.hid hn5
  clear hn5
  have hld5 := blk_at hbk5 0 _ rfl
  have hA5 := (Ext.refl W).alloc (.cells #[.int .u8 kk] 5)
  have hin5 : InB ((W).alloc (.cells #[.int .u8 kk] 5)) (.slice (some ⟨(W).heap.size, 0, none⟩) 1 1) [pkB p] := (by rw [HBK.out]; exact ⟨_, 1, rfl, Nat.le_refl _, Rd_blk (heap_alloc_new _ _)⟩)
  have hs5 := Nat.le_trans hsz hA5.size
  go_wp2_with (at_builtin; go_must (refine wpList_appendV elem_u8 (fun _ => rfl) rfl (.tmp 12) (.tmp 15) rfl base _ (l) rfl (hoo5.ext hA5) _ [pkB p] rfl hin5 (by have := HN5.out; simp only [List.length_cons, List.length_nil]; omega) (by omega) hs5 (Hold.out ?_)))
  refine Hold.mk fun v9 w9 ho9 hg9 => ?_
  obtain ⟨hB9, hO9, hblk9⟩ := Buf.put (hA5.heap hbk5) (hoo5.ext hA5) ho9 hg9
  have hOO9 := (Only.of_ext (base := base) (g := g) hA5).trans hO9
  obtain ⟨V9, d9, hv9, _, _⟩ := ho9.inV
  obtain ⟨n9, hn9⟩ : ∃ n9, n9 = ((l) ++ [pkB p]).length := ⟨_, rfl⟩
  rw [← hn9] at hv9
  subst hv9
  clear hn9
  have f9 := blk_free hblk9 0
  have q9 := blk_at hblk9 0 _ rfl
  have hlt9 := heap_lt hblk9
  clear ho9 hg9 hO9 hblk9 hbk5 hoo5 hA5 hin5 hs5 hld5 hsz
  have hL2 := hLS.next hB9 hOO9
  clear hB9 hOO9 hLS r0 r1 r2
  go_upto_region 5 with fail
  generalize w9.setCell ⟨g, 0, none⟩ (.slice V9 n9 d9) = W1 at *
  obtain ⟨cu, hcu⟩ : ∃ cu, cu = l ++ [pkB p] := ⟨_, rfl⟩
  have hcl : cu.length ≤ 8000001 := by rw [hcu, List.length_append]; simp only [List.length_cons, List.length_nil]; omega
  rw [← hcu] at hL2
  have HCU := Lib.hid hcu
  clear hcu f9 q9 hlt9
  obtain ⟨r0, r1, r2⟩ := blk3 hL2.box
  have c4 := blk_at hL2.clo 0 _ rfl
  go_upto_if 19 with fail
  go_cut [19] (fun _ wx => LS base g g4 gp p w (cu ++ pnB p) wx)
  case first =>
    by_cases h1 : p.kind = 1
    · have d : (p.kind != 1) = false := by simp [h1]
      have HE : Hid (pnB p = []) := Lib.hid (by unfold pnB; rw [if_pos h1])
      clear h1
      go_wp2_with fail
      go_meet
      rw [HE.out, List.append_nil]
      exact hL2
    · have d : (p.kind != 1) = true := by simp [h1]
      have HE : Hid (pnB p = uintB p.n) := Lib.hid (by unfold pnB; rw [if_neg h1])
      unfold cloV at c4
      clear h1
      go_wp2_with fail
      refine (unsigned19 base g cu p.n W1 hL2.buf hL2.size (by omega) (by omega)).mono ?_
      rintro en w11 ⟨rv, rfl, hb11, ho11⟩
      have hL11 := hL2.next hb11 ho11
      rw [← HE.out] at hL11
      clear hL2 hb11 ho11 r0 r1 r2 c4
      go_wp2_with fail
      go_meet
      exact hL11
  clear hL2 r0 r1 r2 c4
  obtain ⟨W2, rfl⟩ : ∃ W : World, W = wc := ⟨_, rfl⟩
  obtain ⟨cv, hcv⟩ : ∃ cv, cv = cu ++ pnB p := ⟨_, rfl⟩
  have hcl2 : cv.length ≤ 8000100 := by rw [hcv, List.length_append]; omega
  rw [← hcv] at hcut
  have HCV : Hid (l ++ encPl p = cv ++ paB p) := Lib.hid (by rw [hcv, HCU.out, HENC.out]; simp only [List.append_assoc])
  clear hcv
  obtain ⟨r0, r1, r2⟩ := blk3 hcut.box
  by_cases h0 : p.add = 0
  · have d : (p.add != 0) = false := by simp [h0]
    have HE : Hid (paB p = []) := Lib.hid (by unfold paB; rw [if_pos h0])
    clear h0
    go_wp2_with fail
    refine bodyPost_ret (by simp [results, Try.results72, go_sem]; rfl) rfl ?_
    exact ⟨_, rfl, by rw [HCV.out, HE.out, List.append_nil]; exact hcut.buf, hcut.only⟩
  · have d : (p.add != 0) = true := by simp [h0]
    have HE : Hid (paB p = leb (zig p.add)) := Lib.hid (by unfold paB; rw [if_neg h0])
    clear h0
    obtain ⟨y, hblk, ho⟩ := hcut.buf
    obtain ⟨A, c, rfl, _, _⟩ := ho.inV
    have c0 := blk_at hblk 0 _ rfl
    obtain ⟨nv, hnv⟩ : ∃ n, n = cv.length := ⟨_, rfl⟩
    rw [← hnv] at c0 hblk ho
    have HNV := Lib.hid hnv
    have hnv2 : nv ≤ 8000100 := by rw [hnv]; exact hcl2
    clear hnv
    go_upto_region 8 with fail
    refine wp_region_X #[true, true, true, true, false, false] 4 2 (by kernel_rfl) rfl ?_
    refine wpX_vt 0 (.slice A nv c) rfl rfl (by kernel_rfl) (by kernel_rfl) (by kernel_rfl) (fun _ _ _ _ h => h) (by kernel_rfl) rfl (by rfl) (fun W' hW => by
      have z := (((Ext.refl W2).drew).trans hW).cell c0
      go_simp) ?_
    simp only [List.setIfInBounds_toArray, List.set_cons_zero, List.set_cons_succ]
    refine wpX_vt 1 (.pointer (some ⟨gp, 2, none⟩)) rfl rfl (by kernel_rfl) (by kernel_rfl) (by kernel_rfl) (fun _ _ _ _ h => h) (by kernel_rfl) rfl (by rfl) (fun W' hW => by
      skip
      go_simp) ?_
    simp only [List.setIfInBounds_toArray, List.set_cons_zero, List.set_cons_succ]
    refine wpX_vt 2 (.int .i64 p.add) rfl rfl (by kernel_rfl) (by kernel_rfl) (by kernel_rfl) (fun _ _ _ _ h => h) (by kernel_rfl) rfl (by rfl) (fun W' hW => by
      have z := (((Ext.refl W2).drew).trans hW).cell r2
      go_simp) ?_
    simp only [List.setIfInBounds_toArray, List.set_cons_zero, List.set_cons_succ]
    refine wpX_c 3 59 #[.slice none 0 0, .int .i64 p.add] rfl rfl (by kernel_rfl) rfl rfl (fun W => by go_simp) ?_
    intro W3 hW3
    have hX3 := ((Ext.refl W2).drew).trans hW3
    refine (AppendInt_any _ [] p.add W3 (InV.nil W3) (by simp) ha.1 ha.2).mono ?_
    rintro en w5 ⟨y5, rfl, ho5, he5⟩
    have hi5 : InB w5 y5 (leb (zig p.add)) := by simpa using ho5.toV.inV
    refine ⟨_, rfl, he5, ?_⟩
    simp only [List.setIfInBounds_toArray, List.set_cons_zero, List.set_cons_succ]
    refine wpX_end rfl fun W7 hW7 => tail_seq 4 rfl (by kernel_rfl) ?_
    simp only [List.drop_succ_cons, List.drop_zero]
    have hX7 := (hX3.trans he5).trans hW7
    have hi7 := hi5.ext hW7
    have hblk7 := hX7.heap hblk
    have ho7 := ho.ext hX7
    have hln : (leb (zig p.add)).length ≤ 100 := Nat.le_trans (leb_len10 (zig_lt ha.1 ha.2)) (by omega)
    have hHLN := Lib.hid hln
    have hs7 := Nat.le_trans hcut.size hX7.size
    obtain ⟨A5, c5, hy5, _, _⟩ := id hi7
    obtain ⟨n5, hn5⟩ : ∃ n5, n5 = (leb (zig p.add)).length := ⟨_, rfl⟩
    rw [← hn5] at hy5
    subst hy5
    have hn100 : n5 ≤ 100 := by rw [hn5]; exact hln
    have HN5 := Lib.hid hn5
    have honly := hcut.only
    clear hln hn5 hW3 hX3 hW7 hi5 ho5 he5 c0 r0 r1 r2 hblk ho hcut
    go_wp2_with (at_builtin; go_must (refine wpList_appendV elem_u8 (fun _ => rfl) rfl (.tmp 27) (.tmp 30) rfl base _ cv rfl ho7 _ (leb (zig p.add)) rfl hi7 (by have := HNV.out; have := hHLN.out; omega) (by omega) hs7 (Hold.out ?_)))
    refine Hold.mk fun v9 w9 ho9 hg9 => ?_
    obtain ⟨hB, hO, hblk9⟩ := Buf.put hblk7 ho7 ho9 hg9
    have f0 := blk_free hblk9 0
    have q0 := blk_at hblk9 0 _ rfl
    have hlt := heap_lt hblk9
    have hOO := honly.trans ((Only.of_ext (base := base) (g := g) hX7).trans hO)
    obtain ⟨V9, d9, hv9, _, _⟩ := ho9.inV
    obtain ⟨n9, hn9⟩ : ∃ n9, n9 = (cv ++ leb (zig p.add)).length := ⟨_, rfl⟩
    rw [← hn9] at hv9
    subst hv9
    clear hn9 ho9 hg9 hO hblk7 ho7 hi7 hX7 hblk9 honly
    go_wp2_with fail
    refine NoPanic.normal ?_
    go_wp2_with fail
    refine bodyPost_ret (by simp [results, Try.results72, go_sem]; rfl) rfl ?_
    exact ⟨_, rfl, by rw [HCV.out, HE.out]; exact hB, hOO⟩
end Go.Proofs.Ytokmbdeafjmcjaa
/- The walk of locs.Encode. -/
namespace Go.Proofs.Ytokmbdeafjmcjaa
open Go.RowKit
set_option linter.unusedVariables false
set_option linter.unusedSimpArgs false

structure QS (w : World) (base g g4 : Nat) (cur : List UInt8) (W : World) : Prop where
  buf : Buf base g W cur
  clo : W.heap[g4]? = some (.cells #[cloV g] 93 (0, 0))
  ext : Ext w W
  size : base ≤ W.heap.size
  low : w.heap.size ≤ base ∧ w.heap.size ≤ g
theorem QS.next {w W W' : World} {base g g4 : Nat} {cur cu : List UInt8} (h : QS w base g g4 cur W) (hb : Buf base g W' cu) (ho : Only base g W W') : QS w base g g4 cu W' :=
  ⟨hb, ho.box h.clo (h.buf.ne h.clo (by decide)) (by decide), ho.ext h.ext h.low.1 h.low.2, Nat.le_trans h.size ho.size, h.low⟩
theorem QS.aside {w W W' : World} {base g g4 : Nat} {cur : List UInt8} (h : QS w base g g4 cur W) (he : Ext W W') : QS w base g g4 cur W' :=
  ⟨h.buf.ext he, he.heap h.clo, h.ext.trans he, Nat.le_trans h.size he.size, h.low⟩
theorem QS.box {w W W' : World} {base g g4 : Nat} {cur : List UInt8} (h : QS w base g g4 cur W) (ho : Only base g W W') {k : Nat} {cs : Array Value} {t : TypeId} {fr : Nat × Nat} (hk : W.heap[k]? = some (.cells cs t fr)) (h1 : t ≠ 32) (h2 : t ≠ 5) : W'.heap[k]? = some (.cells cs t fr) :=
  ho.box hk (h.buf.ne hk h1) h2
theorem okPs_mem : ∀ {l : List PTab} {e : Int}, 0 ≤ e → okPs e l → ∀ t ∈ l, (0 ≤ t.lo ∧ t.lo ≤ t.hi ∧ t.hi ≤ 1048576) ∧ okRngs t.lo t.hi t.ranges
  | [], _, _, _, t, ht => by simp at ht
  | s :: l, e, he, h, t, ht => by
    obtain ⟨h1, h2, h3⟩ := h
    unfold okP at h1
    rcases List.mem_cons.1 ht with rfl | ht
    · exact ⟨by omega, h2⟩
    · exact okPs_mem (e := s.hi) (by omega) h3 t ht
theorem lastLo_eq : ∀ (l : List Rng) (was : Int), lastLo was l = (l.getLast?.map Rng.lo).getD was
  | [], _ => rfl
  | r :: l, was => by
    rw [lastLo, lastLo_eq l r.lo]
    cases l with
    | nil => rfl
    | cons x l =>
      rw [List.getLast?_cons_cons]
      cases h : (x :: l).getLast? with
      | none => simp at h
      | some y => rfl
theorem okAt_last {lo hi : Int} {l : List Rng} (h : okRngs lo hi l) {k : Nat} (hk : k < l.length) : lastLo lo (l.take k) ≤ l[k].lo := by
  obtain ⟨h1, _, h2, _⟩ := h k hk
  unfold okNum at h1
  rw [lastLo_eq]
  cases hg : (l.take k).getLast? with
  | none => simpa using h1.1
  | some p =>
    have := h2 p hg
    unfold ltK at this
    simp only [Option.map_some, Option.getD_some]
    omega
theorem encPls_len : ∀ {l : List Plc}, (∀ p ∈ l, okPlc p ∧ I64 p.add) → (l.flatMap encPl).length ≤ 21 * l.length
  | [], _ => by simp
  | p :: l, h => by
    have h1 := encPl_len (h p (by simp)).1 (h p (by simp)).2
    have h2 := encPls_len (l := l) fun q hq => h q (by simp [hq])
    simp only [List.flatMap_cons, List.length_append, List.length_cons]
    omega
theorem blkT3 {w : World} {g : Nat} {a b c : Value} {t : TypeId} (H : w.heap[g]? = some (.cells #[a, b, c] t (0, 0))) :
    w.cell? ⟨g, 0, none⟩ = some a ∧ w.cell? ⟨g, 1, none⟩ = some b ∧ w.cell? ⟨g, 2, none⟩ = some c := ⟨blk_at H 0 _ rfl, blk_at H 1 _ rfl, blk_at H 2 _ rfl⟩
set_option maxRecDepth 100000 in
theorem ix6 (a b c d e f : Int) (w : World) : (Instr.index 118 (.agg #[.int .i64 a, .int .i64 b, .int .i64 c, .int .i64 d, .int .i64 e, .int .i64 f]) (.int .i64 0)).run Try.prog w = .ok (.int .i64 a) w ∧
    (Instr.index 118 (.agg #[.int .i64 a, .int .i64 b, .int .i64 c, .int .i64 d, .int .i64 e, .int .i64 f]) (.int .i64 1)).run Try.prog w = .ok (.int .i64 b) w ∧
    (Instr.index 118 (.agg #[.int .i64 a, .int .i64 b, .int .i64 c, .int .i64 d, .int .i64 e, .int .i64 f]) (.int .i64 2)).run Try.prog w = .ok (.int .i64 c) w ∧
    (Instr.index 118 (.agg #[.int .i64 a, .int .i64 b, .int .i64 c, .int .i64 d, .int .i64 e, .int .i64 f]) (.int .i64 3)).run Try.prog w = .ok (.int .i64 d) w ∧
    (Instr.index 118 (.agg #[.int .i64 a, .int .i64 b, .int .i64 c, .int .i64 d, .int .i64 e, .int .i64 f]) (.int .i64 4)).run Try.prog w = .ok (.int .i64 e) w ∧
    (Instr.index 118 (.agg #[.int .i64 a, .int .i64 b, .int .i64 c, .int .i64 d, .int .i64 e, .int .i64 f]) (.int .i64 5)).run Try.prog w = .ok (.int .i64 f) w :=
  ⟨by kernel_rfl, by kernel_rfl, by kernel_rfl, by kernel_rfl, by kernel_rfl, by kernel_rfl⟩
set_option maxHeartbeats 40000000 in
set_option maxRecDepth 100000 in
theorem PEncode_any (l : List PTab) (v : Value) (w : World) (hv : PTabs w v l) (hI : ∀ t ∈ l, t.I) (hA : AddsIn l) (hl : l.length ≤ 9223372036854775807) : Calls Try.prog 42 #[v] w (EncPost (EncP l) w) := by
  obtain ⟨A, c, rfl⟩ := hv.form
  have HV := Lib.hid hv
  have HI := Lib.hid hI
  have HA := Lib.hid hA
  clear hv hI hA
  go_enter Try.func42, Try.ntmps42
  go_wp2_with fail
  refine (PRight_any l _ w HV.out HI.out hl).mono ?_
  rintro en w1 ⟨r, rfl, hr, hx1⟩
  cases r with
  | false =>
    have HN : Hid (EncP l = []) := Lib.hid (by unfold EncP; rw [if_neg (fun h => by have := hr.2 h; cases this)])
    clear hr
    go_wp2_with fail
    refine bodyPost_ret (by simp [results, Try.results42, go_sem]; rfl) rfl ?_
    exact ⟨_, rfl, by rw [HN.out]; exact OwnV.nil _, hx1⟩
  | true =>
    have HR := Lib.hid (hr.1 rfl)
    clear hr
    have h8 := HR.out.1
    go_upto_region 4 with fail
    obtain ⟨g, hg⟩ : ∃ g, g = w1.heap.size := ⟨_, rfl⟩
    have hwg : w.heap.size ≤ g := by rw [hg]; exact hx1.size
    have hA1 := (Ext.refl w1).alloc (.cells #[.slice none 0 0] 32)
    have hb3 : (w1.alloc (.cells #[.slice none 0 0] 32)).heap[g]? = some (.cells #[.slice none 0 0] 32 (0, 0)) := by rw [hg]; exact heap_alloc_new w1 _
    rw [← hg]
    clear hg
    generalize w1.alloc (.cells #[.slice none 0 0] 32) = W1 at *
    have hX1 := hx1.trans hA1
    have hb4 := heap_alloc_new W1 (.cells #[.nilFunc] 93)
    have f0 := blk_free hb4 0
    have q0 : (W1.alloc (.cells #[.nilFunc] 93)).cell? ⟨W1.heap.size, 0, none⟩ = some .nilFunc := blk_at hb4 0 _ rfl
    have hlt0 := heap_lt hb4
    have HB4 := Lib.hid hb4
    have HB3 := Lib.hid hb3
    clear hb4 hb3
    go_upto_region 6 with fail
    have hA4 := (Ext.refl W1).alloc (.cells #[cloV g] 93)
    have hc4 : (W1.alloc (.cells #[cloV g] 93)).heap[W1.heap.size]? = some (.cells #[cloV g] 93 (0, 0)) := heap_alloc_new W1 _
    have hB0 : Buf (W1.alloc (.cells #[cloV g] 93)).heap.size g (W1.alloc (.cells #[cloV g] 93)) [] := ⟨_, hA4.heap HB3.out, OwnV.nil _⟩
    obtain ⟨g4, hg4⟩ : ∃ g4, g4 = W1.heap.size := ⟨_, rfl⟩
    rw [← hg4] at hc4 ⊢
    clear f0 q0 hlt0 HB4 HB3 hg4
    change Code.wp _ _ _ _ (W1.alloc (.cells #[cloV g] 93))
    generalize W1.alloc (.cells #[cloV g] 93) = W at *
    obtain ⟨base, hbase⟩ : ∃ b, b = W.heap.size := ⟨_, rfl⟩
    have hX4 := hX1.trans hA4
    rw [← hbase] at hB0
    have hQ0 : QS w base g g4 [] W := ⟨hB0, hc4, hX4, by omega, ⟨by rw [hbase]; exact hX4.size, hwg⟩⟩
    clear hbase hA1 hx1 hX1 hA4 hc4 hB0 hX4
    have hwg' := hwg
    have c4 := blk_at hQ0.clo 0 _ rfl
    unfold cloV at c4
    go_wp2_with fail
    refine (unsigned19 base g [] (l.length : Int) W hQ0.buf hQ0.size (by simp) (by omega)).mono ?_
    rintro en w2 ⟨rv, rfl, hb2, ho2⟩
    have hQ2 := hQ0.next hb2 ho2
    rw [List.nil_append] at hQ2
    have hll := uintB_len (v := (l.length : Int)) (by omega)
    clear hQ0 hb2 ho2 c4
    go_wp2_with fail
    go_loopw [26] (fun i wr => ∃ (j N : Nat) (cur : List UInt8), j ≤ l.length ∧ i = .int .i64 (j : Int) ∧ Hid (cur = numB [(l.length : Int)] ++ (l.take j).flatMap encPT) ∧ cur.length ≤ 10 + 30 * j + 900 * N ∧ N ≤ 8000 ∧ Hid (N = rngsN (l.take j)) ∧ QS w base g g4 cur wr) (fun i _ => l.length - (intOf i).toNat)
    case atStart => exact ⟨0, 0, uintB l.length, by omega, rfl, Lib.hid (by simp [numB]), by omega, by omega, Lib.hid (by simp [rngsN]), hQ2⟩
    case round =>
      clear hQ2 hll
      obtain ⟨j, N, cur, hj, rfl, HC, hcl, hN, HN, hQ⟩ := hrel
      obtain ⟨wo, rfl⟩ : ∃ wo : World, wo = wr := ⟨_, rfl⟩
      by_cases hlt : j < l.length
      · have hij : (j : Int) < (l.length : Int) := by omega
        obtain ⟨bb, oo, y, rfl, hra0, hrw0⟩ := HV.out.at_ hlt
        have hra : wo.rangeAt bb (oo + j * 3) (ptabCells (l[j], y)) := fun i u hu => hQ.ext.cell (hra0 i u hu)
        have HSU := Lib.hid (rngsN_succ hlt)
        have HTK := Lib.hid (List.take_succ_eq_append_getElem hlt)
        obtain ⟨hok, hokR⟩ := okPs_mem (by omega) HR.out.2.1 _ (List.getElem_mem hlt)
        have HTI := Lib.hid (HI.out _ (List.getElem_mem hlt))
        have HTA := Lib.hid (HA.out _ (List.getElem_mem hlt))
        have hrl8 : N + l[j].ranges.length ≤ 8000 := by
          have h1 := HR.out.2.2
          have h2 := rngsN_le hlt
          rw [← HN.out] at h2
          omega
        generalize l[j] = t at *
        have HOR := Lib.hid hokR
        have hrw := Lib.hid hrw0
        obtain ⟨A2, c2, rfl⟩ := hrw0.form
        clear hra0 hrw0 hokR
        have hld := ptab_load hra
        obtain ⟨hst, hG, hXG⟩ := box_new (P := Try.prog) wo 66 #[.int .i64 0, .int .i64 0, .slice none 0 0] #[.int .i64 t.lo, .int .i64 t.hi, .slice A2 t.ranges.length c2] pl_size rfl (by simp [Value.oneCell'])
        go_upto_region 10 with first | refine wpList_load_run rfl 66 (.tmp 28) rfl _ _ rfl hld ?_ | refine wpList_store_run rfl 66 (.tmp 7) (.tmp 29) rfl _ _ _ rfl rfl hst ?_
        obtain ⟨g7, hg7⟩ : ∃ g, g = wo.heap.size := ⟨_, rfl⟩
        rw [← hg7] at hG hXG ⊢
        generalize (wo.alloc (.cells #[.int .i64 0, .int .i64 0, .slice none 0 0] 66)).setRow g7 #[.int .i64 t.lo, .int .i64 t.hi, .slice A2 t.ranges.length c2] = wg at *
        dsimp only [Act.put]
        have hQ1 := hQ.aside hXG
        clear hst hld hra hXG hg7 hQ
        obtain ⟨r0, r1, r2⟩ := blkT3 hG
        have c4 := blk_at hQ1.clo 0 _ rfl
        unfold cloV at c4
        go_wp2_with fail
        refine (unsigned19 base g cur (t.lo) _ hQ1.buf hQ1.size (by omega) (by omega)).mono ?_
        rintro en w3 ⟨rv3, rfl, hb3, ho3⟩
        have hQ3 := hQ1.next hb3 ho3
        have hG3 := hQ1.box ho3 hG (by decide) (by decide)
        have hul := uintB_len (v := t.lo) (by omega)
        obtain ⟨cur1, hcn⟩ : ∃ c, c = cur ++ uintB (t.lo) := ⟨_, rfl⟩
        have hcl1 : cur1.length ≤ cur.length + 10 := by rw [hcn, List.length_append]; omega
        rw [← hcn] at hQ3
        have HC1 := Lib.hid hcn
        clear hQ1 hb3 ho3 hG r0 r1 r2 c4 hcn hul
        have hQ1 := hQ3
        have hG := hG3
        clear hQ3 hG3
        obtain ⟨r0, r1, r2⟩ := blkT3 hG
        have c4 := blk_at hQ1.clo 0 _ rfl
        unfold cloV at c4
        go_wp2_with fail
        refine (unsigned19 base g cur1 (t.hi) _ hQ1.buf hQ1.size (by omega) (by omega)).mono ?_
        rintro en w3 ⟨rv3, rfl, hb3, ho3⟩
        have hQ3 := hQ1.next hb3 ho3
        have hG3 := hQ1.box ho3 hG (by decide) (by decide)
        have hul := uintB_len (v := t.hi) (by omega)
        obtain ⟨cur2, hcn⟩ : ∃ c, c = cur1 ++ uintB (t.hi) := ⟨_, rfl⟩
        have hcl2 : cur2.length ≤ cur1.length + 10 := by rw [hcn, List.length_append]; omega
        rw [← hcn] at hQ3
        have HC2 := Lib.hid hcn
        clear hQ1 hb3 ho3 hG r0 r1 r2 c4 hcn hul
        have hQ1 := hQ3
        have hG := hG3
        clear hQ3 hG3
        obtain ⟨r0, r1, r2⟩ := blkT3 hG
        have c4 := blk_at hQ1.clo 0 _ rfl
        unfold cloV at c4
        go_wp2_with fail
        refine (unsigned19 base g cur2 ((t.ranges.length : Int)) _ hQ1.buf hQ1.size (by omega) (by omega)).mono ?_
        rintro en w3 ⟨rv3, rfl, hb3, ho3⟩
        have hQ3 := hQ1.next hb3 ho3
        have hG3 := hQ1.box ho3 hG (by decide) (by decide)
        have hul := uintB_len (v := (t.ranges.length : Int)) (by omega)
        obtain ⟨cur3, hcn⟩ : ∃ c, c = cur2 ++ uintB ((t.ranges.length : Int)) := ⟨_, rfl⟩
        have hcl3 : cur3.length ≤ cur2.length + 10 := by rw [hcn, List.length_append]; omega
        rw [← hcn] at hQ3
        have HC3 := Lib.hid hcn
        clear hQ1 hb3 ho3 hG r0 r1 r2 c4 hcn hul
        have hQ1 := hQ3
        have hG := hG3
        clear hQ3 hG3
        have HC0 : Hid (cur3 = cur ++ numB [t.lo, t.hi, (t.ranges.length : Int)]) := Lib.hid (by rw [HC3.out, HC2.out, HC1.out]; simp [numB])
        have hcl4 : cur3.length ≤ 40 + 30 * j + 900 * N := by omega
        clear HC1 HC2 HC3 hcl1 hcl2 hcl3
        obtain ⟨r0, r1, r2⟩ := blkT3 hG
        have hI3 := HTI.out.len
        go_wp2_with fail
        go_loopw [8, 48] (fun la i wr => ∃ (k : Nat) (e : Int) (cu : List UInt8), k ≤ t.ranges.length ∧ i = .int .i64 (k : Int) ∧ la = .int .i64 e ∧ 0 ≤ e ∧ e ≤ 1048576 ∧ Hid (e = lastLo t.lo (t.ranges.take k)) ∧ Hid (cu = cur3 ++ encRngs t.lo (t.ranges.take k)) ∧ cu.length ≤ 40 + 30 * j + 900 * N + 900 * k ∧ QS w base g g4 cu wr ∧
          wr.heap[g7]? = some (.cells #[.int .i64 t.lo, .int .i64 t.hi, .slice A2 t.ranges.length c2] 66 (0, 0))) (fun _ i _ => t.ranges.length - (intOf i).toNat)
        case atStart => exact ⟨0, t.lo, cur3, by omega, rfl, rfl, by omega, by omega, Lib.hid rfl, Lib.hid (by simp [encRngs]), by omega, hQ1, hG⟩
        case round =>
          clear hQ1 hG r0 r1 r2
          obtain ⟨k, e, cu, hk, rfl, rfl, he0, he1, HE, HCU, hcu, hQ, hG7⟩ := hrel
          obtain ⟨wz, rfl⟩ : ∃ wz : World, wz = wr := ⟨_, rfl⟩
          by_cases hlk : k < t.ranges.length
          · have hki : (k : Int) < (t.ranges.length : Int) := by omega
            obtain ⟨b2, o2, y2, hAe, hra0, hpl0⟩ := hrw.out.at_ hlk
            subst hAe
            have hra : wz.rangeAt b2 (o2 + k * 6) (rngCells (t.ranges[k], y2)) := fun i u hu => hQ.ext.cell (hra0 i u hu)
            have HTR := Lib.hid (List.take_succ_eq_append_getElem hlk)
            have hla := okAt_last HOR.out hlk
            rw [← HE.out] at hla
            obtain ⟨hon, hop, _, _⟩ := HOR.out k hlk
            have HRA := Lib.hid (HTA.out _ (List.getElem_mem hlk))
            have HPL := Lib.hid hpl0
            generalize t.ranges[k] = r at *
            unfold okNum at hon
            obtain ⟨hp1, hp40, hop3⟩ := hop
            have HOP := Lib.hid hop3
            obtain ⟨A3, c3, rfl, _, _⟩ := id hpl0
            have hld := rng_load hra
            clear hra0 hpl0 hop3
            obtain ⟨hst, hG, hXG⟩ := box_new (P := Try.prog) wz 69 #[.int .i64 0, .int .i64 0, .int .i64 0, .int .i64 0, .int .i64 0, .slice none 0 0] #[.int .i64 r.ctx, .int .i64 r.var, .int .i64 r.piece, .int .i64 r.lo, .int .i64 r.hi, .slice A3 r.places.length c3] rg_size rfl (by simp [Value.oneCell'])
            go_upto_region 17 with first | refine wpList_load_run rfl 69 (.tmp 50) rfl _ _ rfl hld ?_ | refine wpList_store_run rfl 69 (.tmp 10) (.tmp 51) rfl _ _ _ rfl rfl hst ?_
            obtain ⟨g10, hg10⟩ : ∃ g, g = wz.heap.size := ⟨_, rfl⟩
            rw [← hg10] at hG hXG ⊢
            generalize (wz.alloc (.cells #[.int .i64 0, .int .i64 0, .int .i64 0, .int .i64 0, .int .i64 0, .slice none 0 0] 69)).setRow g10 #[.int .i64 r.ctx, .int .i64 r.var, .int .i64 r.piece, .int .i64 r.lo, .int .i64 r.hi, .slice A3 r.places.length c3] = wg at *
            dsimp only [Act.put]
            have hQ1 := hQ.aside hXG
            have hG7' := hXG.heap hG7
            clear hst hld hra hXG hg10 hQ hG7
            obtain ⟨d1, hd1⟩ : ∃ d, d = r.lo - e := ⟨_, rfl⟩
            obtain ⟨d2, hd2⟩ : ∃ d, d = r.hi - r.lo := ⟨_, rfl⟩
            have x1 : IntKind.i64.wrap (r.lo - e) = d1 := by rw [← hd1]; exact wrap_in19 (by omega)
            have x2 : IntKind.i64.wrap (r.hi - r.lo) = d2 := by rw [← hd2]; exact wrap_in19 (by omega)
            have hr1 : 0 ≤ d1 ∧ d1 ≤ 1048576 := by omega
            have hr2 : 0 ≤ d2 ∧ d2 ≤ 1048576 := by omega
            have HD1 := Lib.hid hd1
            have HD2 := Lib.hid hd2
            clear hd1 hd2
            obtain ⟨p0, p1, p2, p3, p4, p5⟩ := blk6 hG
            go_wp2_with fail
            clear p0 p1 p2 p3 p4 p5
            go_loopw [71] (fun i wr => ∃ (m : Nat) (mi : Int) (cm : List UInt8), mi = (m : Int) ∧ m ≤ 6 ∧ i = .int .i64 mi ∧ Hid (cm = cu ++ numB ([d1, d2, r.ctx, r.var, r.piece, (r.places.length : Int)].take m)) ∧ cm.length ≤ cu.length + 10 * m ∧ QS w base g g4 cm wr ∧
              wr.heap[g7]? = some (.cells #[.int .i64 t.lo, .int .i64 t.hi, .slice (some ⟨b2, o2, none⟩) t.ranges.length c2] 66 (0, 0)) ∧ wr.heap[g10]? = some (.cells #[.int .i64 r.ctx, .int .i64 r.var, .int .i64 r.piece, .int .i64 r.lo, .int .i64 r.hi, .slice A3 r.places.length c3] 69 (0, 0))) (fun i _ => 6 - (intOf i).toNat)
            case atStart => exact ⟨0, 0, cu, rfl, by omega, rfl, Lib.hid (by simp [numB]), by omega, hQ1, hG7', hG⟩
            case round =>
              clear hQ1 hG hG7'
              obtain ⟨m, mi, cm, hmi, hm6, rfl, HCM, hcm, hQ1, hG7, hG⟩ := hrel
              obtain ⟨wy, rfl⟩ : ∃ wz : World, wz = wr := ⟨_, rfl⟩
              by_cases hm : m < 6
              · have c4 := blk_at hQ1.clo 0 _ rfl
                unfold cloV at c4
                obtain ⟨x0, x1', x2', x3, x4, x5⟩ := ix6 d1 d2 r.ctx r.var r.piece (r.places.length : Int) wy
                have hcase : m = 0 ∨ m = 1 ∨ m = 2 ∨ m = 3 ∨ m = 4 ∨ m = 5 := by omega
                rcases hcase with rfl | rfl | rfl | rfl | rfl | rfl
                · have hmi' : mi = 0 := by omega
                  subst hmi'
                  clear hmi
                  go_wp2_with fail
                  refine (unsigned19 base g cm (d1) _ hQ1.buf hQ1.size (by omega) (by omega)).mono ?_
                  rintro en w3 ⟨rv3, rfl, hb3, ho3⟩
                  have hQ3 := hQ1.next hb3 ho3
                  have hG3 := hQ1.box ho3 hG (by decide) (by decide)
                  have hul := uintB_len (v := d1) (by omega)
                  obtain ⟨cn, hcn⟩ : ∃ c, c = cm ++ uintB (d1) := ⟨_, rfl⟩
                  have hcl3 : cn.length ≤ cm.length + 10 := by rw [hcn, List.length_append]; omega
                  rw [← hcn] at hQ3
                  have HCN := Lib.hid hcn
                  have hG73 := hQ1.box ho3 hG7 (by decide) (by decide)
                  have HCMN : Hid (cn = cu ++ numB ([d1, d2, r.ctx, r.var, r.piece, (r.places.length : Int)].take 1)) := Lib.hid (by rw [HCN.out, HCM.out]; simp [numB])
                  clear hQ1 hb3 ho3 hG hG7 c4 hcn hul HCN HCM x0 x1' x2' x3 x4 x5
                  go_wp2_with fail
                  go_roundw
                  case rel => exact ⟨1, 1, cn, by omega, by omega, by first | (with_reducible rfl) | go_num, HCMN, by omega, hQ3, hG73, hG3⟩
                  case measure => simp [intOf]
                · have hmi' : mi = 1 := by omega
                  subst hmi'
                  clear hmi
                  go_wp2_with fail
                  refine (unsigned19 base g cm (d2) _ hQ1.buf hQ1.size (by omega) (by omega)).mono ?_
                  rintro en w3 ⟨rv3, rfl, hb3, ho3⟩
                  have hQ3 := hQ1.next hb3 ho3
                  have hG3 := hQ1.box ho3 hG (by decide) (by decide)
                  have hul := uintB_len (v := d2) (by omega)
                  obtain ⟨cn, hcn⟩ : ∃ c, c = cm ++ uintB (d2) := ⟨_, rfl⟩
                  have hcl3 : cn.length ≤ cm.length + 10 := by rw [hcn, List.length_append]; omega
                  rw [← hcn] at hQ3
                  have HCN := Lib.hid hcn
                  have hG73 := hQ1.box ho3 hG7 (by decide) (by decide)
                  have HCMN : Hid (cn = cu ++ numB ([d1, d2, r.ctx, r.var, r.piece, (r.places.length : Int)].take 2)) := Lib.hid (by rw [HCN.out, HCM.out]; simp [numB])
                  clear hQ1 hb3 ho3 hG hG7 c4 hcn hul HCN HCM x0 x1' x2' x3 x4 x5
                  go_wp2_with fail
                  go_roundw
                  case rel => exact ⟨2, 2, cn, by omega, by omega, by first | (with_reducible rfl) | go_num, HCMN, by omega, hQ3, hG73, hG3⟩
                  case measure => simp [intOf]
                · have hmi' : mi = 2 := by omega
                  subst hmi'
                  clear hmi
                  go_wp2_with fail
                  refine (unsigned19 base g cm (r.ctx) _ hQ1.buf hQ1.size (by omega) (by omega)).mono ?_
                  rintro en w3 ⟨rv3, rfl, hb3, ho3⟩
                  have hQ3 := hQ1.next hb3 ho3
                  have hG3 := hQ1.box ho3 hG (by decide) (by decide)
                  have hul := uintB_len (v := r.ctx) (by omega)
                  obtain ⟨cn, hcn⟩ : ∃ c, c = cm ++ uintB (r.ctx) := ⟨_, rfl⟩
                  have hcl3 : cn.length ≤ cm.length + 10 := by rw [hcn, List.length_append]; omega
                  rw [← hcn] at hQ3
                  have HCN := Lib.hid hcn
                  have hG73 := hQ1.box ho3 hG7 (by decide) (by decide)
                  have HCMN : Hid (cn = cu ++ numB ([d1, d2, r.ctx, r.var, r.piece, (r.places.length : Int)].take 3)) := Lib.hid (by rw [HCN.out, HCM.out]; simp [numB])
                  clear hQ1 hb3 ho3 hG hG7 c4 hcn hul HCN HCM x0 x1' x2' x3 x4 x5
                  go_wp2_with fail
                  go_roundw
                  case rel => exact ⟨3, 3, cn, by omega, by omega, by first | (with_reducible rfl) | go_num, HCMN, by omega, hQ3, hG73, hG3⟩
                  case measure => simp [intOf]
                · have hmi' : mi = 3 := by omega
                  subst hmi'
                  clear hmi
                  go_wp2_with fail
                  refine (unsigned19 base g cm (r.var) _ hQ1.buf hQ1.size (by omega) (by omega)).mono ?_
                  rintro en w3 ⟨rv3, rfl, hb3, ho3⟩
                  have hQ3 := hQ1.next hb3 ho3
                  have hG3 := hQ1.box ho3 hG (by decide) (by decide)
                  have hul := uintB_len (v := r.var) (by omega)
                  obtain ⟨cn, hcn⟩ : ∃ c, c = cm ++ uintB (r.var) := ⟨_, rfl⟩
                  have hcl3 : cn.length ≤ cm.length + 10 := by rw [hcn, List.length_append]; omega
                  rw [← hcn] at hQ3
                  have HCN := Lib.hid hcn
                  have hG73 := hQ1.box ho3 hG7 (by decide) (by decide)
                  have HCMN : Hid (cn = cu ++ numB ([d1, d2, r.ctx, r.var, r.piece, (r.places.length : Int)].take 4)) := Lib.hid (by rw [HCN.out, HCM.out]; simp [numB])
                  clear hQ1 hb3 ho3 hG hG7 c4 hcn hul HCN HCM x0 x1' x2' x3 x4 x5
                  go_wp2_with fail
                  go_roundw
                  case rel => exact ⟨4, 4, cn, by omega, by omega, by first | (with_reducible rfl) | go_num, HCMN, by omega, hQ3, hG73, hG3⟩
                  case measure => simp [intOf]
                · have hmi' : mi = 4 := by omega
                  subst hmi'
                  clear hmi
                  go_wp2_with fail
                  refine (unsigned19 base g cm (r.piece) _ hQ1.buf hQ1.size (by omega) (by omega)).mono ?_
                  rintro en w3 ⟨rv3, rfl, hb3, ho3⟩
                  have hQ3 := hQ1.next hb3 ho3
                  have hG3 := hQ1.box ho3 hG (by decide) (by decide)
                  have hul := uintB_len (v := r.piece) (by omega)
                  obtain ⟨cn, hcn⟩ : ∃ c, c = cm ++ uintB (r.piece) := ⟨_, rfl⟩
                  have hcl3 : cn.length ≤ cm.length + 10 := by rw [hcn, List.length_append]; omega
                  rw [← hcn] at hQ3
                  have HCN := Lib.hid hcn
                  have hG73 := hQ1.box ho3 hG7 (by decide) (by decide)
                  have HCMN : Hid (cn = cu ++ numB ([d1, d2, r.ctx, r.var, r.piece, (r.places.length : Int)].take 5)) := Lib.hid (by rw [HCN.out, HCM.out]; simp [numB])
                  clear hQ1 hb3 ho3 hG hG7 c4 hcn hul HCN HCM x0 x1' x2' x3 x4 x5
                  go_wp2_with fail
                  go_roundw
                  case rel => exact ⟨5, 5, cn, by omega, by omega, by first | (with_reducible rfl) | go_num, HCMN, by omega, hQ3, hG73, hG3⟩
                  case measure => simp [intOf]
                · have hmi' : mi = 5 := by omega
                  subst hmi'
                  clear hmi
                  go_wp2_with fail
                  refine (unsigned19 base g cm ((r.places.length : Int)) _ hQ1.buf hQ1.size (by omega) (by omega)).mono ?_
                  rintro en w3 ⟨rv3, rfl, hb3, ho3⟩
                  have hQ3 := hQ1.next hb3 ho3
                  have hG3 := hQ1.box ho3 hG (by decide) (by decide)
                  have hul := uintB_len (v := (r.places.length : Int)) (by omega)
                  obtain ⟨cn, hcn⟩ : ∃ c, c = cm ++ uintB ((r.places.length : Int)) := ⟨_, rfl⟩
                  have hcl3 : cn.length ≤ cm.length + 10 := by rw [hcn, List.length_append]; omega
                  rw [← hcn] at hQ3
                  have HCN := Lib.hid hcn
                  have hG73 := hQ1.box ho3 hG7 (by decide) (by decide)
                  have HCMN : Hid (cn = cu ++ numB ([d1, d2, r.ctx, r.var, r.piece, (r.places.length : Int)].take 6)) := Lib.hid (by rw [HCN.out, HCM.out]; simp [numB])
                  clear hQ1 hb3 ho3 hG hG7 c4 hcn hul HCN HCM x0 x1' x2' x3 x4 x5
                  go_wp2_with fail
                  go_roundw
                  case rel => exact ⟨6, 6, cn, by omega, by omega, by first | (with_reducible rfl) | go_num, HCMN, by omega, hQ3, hG73, hG3⟩
                  case measure => simp [intOf]
              · have hm' : m = 6 := by omega
                have hmi' : mi = 6 := by omega
                subst hmi'
                have HCM6 : Hid (cm = cu ++ numB [d1, d2, r.ctx, r.var, r.piece, (r.places.length : Int)]) := Lib.hid (by
                  rw [HCM.out, hm']
                  rfl)
                have hcm6 : cm.length ≤ cu.length + 60 := by omega
                clear HCM hcm hmi hm hm' hm6
                obtain ⟨p0, p1, p2, p3, p4, p5⟩ := blk6 hG
                go_wp2_with fail
                clear p0 p1 p2 p3 p4 p5
                go_loopw [83] (fun i wr => ∃ (q : Nat) (cq : List UInt8), q ≤ r.places.length ∧ i = .int .i64 (q : Int) ∧ Hid (cq = cm ++ (r.places.take q).flatMap encPl) ∧ cq.length ≤ cm.length + 21 * q ∧ QS w base g g4 cq wr ∧ wr.heap[g7]? = some (.cells #[.int .i64 t.lo, .int .i64 t.hi, .slice (some ⟨b2, o2, none⟩) t.ranges.length c2] 66 (0, 0))) (fun i _ => r.places.length - (intOf i).toNat)
                case atStart => exact ⟨0, cm, by omega, rfl, Lib.hid (by simp), by omega, hQ1, hG7⟩
                case round =>
                  clear hQ1 hG hG7
                  obtain ⟨q, cq, hq, rfl, HCQ, hcq, hQ, hG7⟩ := hrel
                  obtain ⟨wy, rfl⟩ : ∃ wz : World, wz = wr := ⟨_, rfl⟩
                  by_cases hlq : q < r.places.length
                  · have hqi : (q : Int) < (r.places.length : Int) := by omega
                    obtain ⟨b3, o3, hA3, hra⟩ := (HPL.out.ext hQ.ext).at_ (k := 3) (fun _ _ => rfl) (by omega) hlq
                    subst hA3
                    have HTQ := Lib.hid (List.take_succ_eq_append_getElem hlq)
                    have hpo := HOP.out _ (List.getElem_mem hlq)
                    have hpa := HRA.out _ (List.getElem_mem hlq)
                    generalize r.places[q] = p at *
                    have HPO := Lib.hid hpo
                    have HPA := Lib.hid hpa
                    have hpl := encPl_len hpo hpa
                    have hld := plc_load hra
                    clear hpo hpa hra
                    obtain ⟨hst, hG, hXG⟩ := box_new (P := Try.prog) wy 75 #[.int .i64 0, .int .i64 0, .int .i64 0] #[.int .i64 p.kind, .int .i64 p.n, .int .i64 p.add] pc_size rfl (by simp [Value.oneCell'])
                    go_upto_region 26 with first | refine wpList_load_run rfl 75 (.tmp 85) rfl _ _ rfl hld ?_ | refine wpList_store_run rfl 75 (.tmp 14) (.tmp 86) rfl _ _ _ rfl rfl hst ?_
                    obtain ⟨g14, hg14⟩ : ∃ g, g = wy.heap.size := ⟨_, rfl⟩
                    rw [← hg14] at hG hXG ⊢
                    generalize (wy.alloc (.cells #[.int .i64 0, .int .i64 0, .int .i64 0] 75)).setRow g14 #[.int .i64 p.kind, .int .i64 p.n, .int .i64 p.add] = wg at *
                    dsimp only [Act.put]
                    have hQ1 := hQ.aside hXG
                    have hG7' := hXG.heap hG7
                    have hldp := run_loadAt_blk (P := Try.prog) wg g14 75 75 _ (0, 0) _ hG Try.underlying75 rfl pc_size
                    clear hst hld hXG hg14 hQ hG7
                    go_wp2_with first | refine wpList_load_run rfl 75 (.tmp 14) rfl _ _ rfl hldp ?_
                    refine (place19 base g g4 cq p wg hQ1.buf hQ1.clo hQ1.size (by omega) HPO.out HPA.out).mono ?_
                    rintro en w5 ⟨rv5, rfl, hb5, ho5⟩
                    have hQ5 := hQ1.next hb5 ho5
                    have hG75 := hQ1.box ho5 hG7' (by decide) (by decide)
                    have HCQN : Hid (cq ++ encPl p = cm ++ (r.places.take (q + 1)).flatMap encPl) := Lib.hid (by rw [HTQ.out, List.flatMap_append, ← List.append_assoc, ← HCQ.out]; simp)
                    have hcqn : (cq ++ encPl p).length ≤ cm.length + 21 * (q + 1) := by rw [List.length_append]; omega
                    clear hQ1 hb5 ho5 hG hG7' HCQ hldp hcq hpl
                    go_wp2_with fail
                    go_roundw
                    case rel => exact ⟨q + 1, cq ++ encPl p, by omega, by first | (with_reducible rfl) | go_num, HCQN, hcqn, hQ5, hG75⟩
                    case measure => simp [intOf]; omega
                  · have hqi : ¬ (q : Int) < (r.places.length : Int) := by omega
                    have hqq : q = r.places.length := by omega
                    have HCUN : Hid (cq = cur3 ++ encRngs t.lo (t.ranges.take (k + 1))) := Lib.hid (by
                      rw [HTR.out, encRngs_snoc, ← List.append_assoc, ← HCU.out, ← HE.out, HCQ.out, hqq, List.take_of_length_le (Nat.le_refl _), HCM6.out, HD1.out, HD2.out]
                      simp only [encRng, List.append_assoc])
                    have HEN : Hid (r.lo = lastLo t.lo (t.ranges.take (k + 1))) := Lib.hid (by rw [HTR.out, lastLo_snoc])
                    have hcqn : cq.length ≤ 40 + 30 * j + 900 * N + 900 * (k + 1) := by omega
                    clear HCQ HCM6 hqq HE HCU HD1 HD2 HTR hcq
                    go_wp2_with fail
                    go_roundw
                    case rel => exact ⟨k + 1, r.lo, cq, by omega, by first | (with_reducible rfl) | go_num, rfl, by omega, by omega, HEN, HCUN, hcqn, hQ, hG7⟩
                    case measure => simp [intOf]; omega
          · have hki : ¬ (k : Int) < (t.ranges.length : Int) := by omega
            have hkk : k = t.ranges.length := by omega
            have HCN : Hid (cu = numB [(l.length : Int)] ++ (l.take (j + 1)).flatMap encPT) := Lib.hid (by
              rw [HTK.out, List.flatMap_append, ← List.append_assoc, ← HC.out, HCU.out, hkk, List.take_of_length_le (Nat.le_refl _), HC0.out]
              simp [encPT])
            have HNN : Hid (N + t.ranges.length = rngsN (l.take (j + 1))) := Lib.hid (by rw [HSU.out, ← HN.out])
            have hcun : cu.length ≤ 10 + 30 * (j + 1) + 900 * (N + t.ranges.length) := by omega
            clear hG7 HCU HE hkk HC HN HC0
            go_wp2_with fail
            go_roundw
            case rel => exact ⟨j + 1, N + t.ranges.length, cu, by omega, by first | (with_reducible rfl) | go_num, HCN, hcun, by omega, HNN, hQ⟩
            case measure => simp [intOf]; omega
      · have hij : ¬ (j : Int) < (l.length : Int) := by omega
        have HCE : Hid (cur = encPs l) := Lib.hid (by rw [HC.out, List.take_of_length_le (by omega)]; rfl)
        obtain ⟨y5, hbk5, hoo5⟩ := hQ.buf
        obtain ⟨A5, c5, hy5, _, _⟩ := hoo5.inV
        obtain ⟨n5, hn5⟩ : ∃ n5, n5 = cur.length := ⟨_, rfl⟩
        rw [← hn5] at hy5
        subst hy5
        have HN5 := Lib.hid hn5
        have hld5 := blk_at hbk5 0 _ rfl
        clear hn5 hbk5 HC HN
        by_cases h6 : 60000 < n5
        · have d6 : decide ((60000 : Int) < (n5 : Int)) = true := by simp; omega
          have HE : Hid (EncP l = []) := Lib.hid (by unfold EncP; rw [if_pos HR.out, if_neg (by rw [← HCE.out, ← HN5.out]; omega)])
          go_wp2_with fail
          refine bodyPost_ret (by simp [results, Try.results42, go_sem]; rfl) rfl ?_
          exact ⟨_, rfl, by rw [HE.out]; exact OwnV.nil _, hQ.ext⟩
        · have d6 : decide ((60000 : Int) < (n5 : Int)) = false := by simp; omega
          have HE : Hid (EncP l = cur) := Lib.hid (by unfold EncP; rw [if_pos HR.out, if_pos (by rw [← HCE.out, ← HN5.out]; omega)]; exact HCE.out.symm)
          go_wp2_with fail
          refine bodyPost_ret (by simp [results, Try.results42, go_sem]; rfl) rfl ?_
          exact ⟨_, rfl, by rw [HE.out]; exact hoo5.low hQ.low.1, hQ.ext⟩
end Go.Proofs.Ytokmbdeafjmcjaa
