/- The bytes of location lists; the closures of locs.Encode. -/
import Derived.Test.YtokmbdeafjmcjaaLcE
import Derived.Test.YtokmbdeafjmcjaaCfE
namespace Go.Proofs.Ytokmbdeafjmcjaa
open Go.RowKit
set_option linter.unusedVariables false
set_option linter.unusedSimpArgs false

def pkB (p : Plc) : UInt8 := UInt8.ofNat (p.kind + if p.add = 0 then 0 else 8).toNat
def pnB (p : Plc) : List UInt8 := if p.kind = 1 then [] else uintB p.n
def paB (p : Plc) : List UInt8 := if p.add = 0 then [] else leb (zig p.add)
def encPl (p : Plc) : List UInt8 := ([pkB p] ++ pnB p) ++ paB p
def encRng (was : Int) (r : Rng) : List UInt8 := numB [r.lo - was, r.hi - r.lo, r.ctx, r.var, r.piece, (r.places.length : Int)] ++ r.places.flatMap encPl
def encRngs (was : Int) : List Rng → List UInt8
  | [] => []
  | r :: l => encRng was r ++ encRngs r.lo l
def lastLo (was : Int) : List Rng → Int
  | [] => was
  | r :: l => lastLo r.lo l
theorem lastLo_snoc (r : Rng) : ∀ (l : List Rng) (was : Int), lastLo was (l ++ [r]) = r.lo
  | [], _ => rfl
  | x :: l, was => lastLo_snoc r l x.lo
theorem encRngs_snoc (r : Rng) : ∀ (l : List Rng) (was : Int), encRngs was (l ++ [r]) = encRngs was l ++ encRng (lastLo was l) r
  | [], was => by simp [encRngs, lastLo]
  | x :: l, was => by
    simp only [List.cons_append, encRngs, lastLo]
    rw [encRngs_snoc r l x.lo, List.append_assoc]
def encPT (t : PTab) : List UInt8 := numB [t.lo, t.hi, (t.ranges.length : Int)] ++ encRngs t.lo t.ranges
def encPs (l : List PTab) : List UInt8 := numB [(l.length : Int)] ++ l.flatMap encPT
open Classical in
noncomputable def EncP (l : List PTab) : List UInt8 := if RightP l then (if (encPs l).length ≤ 60000 then encPs l else []) else []
/-- places whose Add is a number of the program -/
def AddsIn (l : List PTab) : Prop := ∀ t ∈ l, ∀ r ∈ t.ranges, ∀ p ∈ r.places, I64 p.add
theorem okPlc.kind_ {p : Plc} (h : okPlc p) : 1 ≤ p.kind ∧ p.kind ≤ 4 ∧ 0 ≤ p.n ∧ p.n ≤ 4095 := by
  unfold okPlc at h
  omega
theorem pnB_len {p : Plc} (h : okPlc p) : (pnB p).length ≤ 10 := by
  unfold pnB
  split
  · simp
  · exact uintB_len (by have := h.kind_; omega)
theorem paB_len {p : Plc} (h : I64 p.add) : (paB p).length ≤ 10 := by
  unfold paB
  split
  · simp
  · exact leb_len10 (zig_lt h.1 h.2)
theorem encPl_len {p : Plc} (h : okPlc p) (h2 : I64 p.add) : (encPl p).length ≤ 21 := by
  unfold encPl
  have h1 := pnB_len h
  have h3 := paB_len h2
  simp only [List.length_append, List.length_cons, List.length_nil]
  omega
set_option maxRecDepth 100000 in
theorem unsigned19 (base g : Nat) (l : List UInt8) (v : Int) (w : World) (hb : Buf base g w l) (hs : base ≤ w.heap.size) (hl : l.length ≤ 9000000) (hv : -9223372036854775808 ≤ v ∧ v ≤ 9223372036854775807) :
    Calls Try.prog 71 #[.int .i64 v, .pointer (some ⟨g, 0, none⟩)] w (BufPost base g (l ++ uintB v) w) := by
  obtain ⟨y, hblk, ho⟩ := hb
  obtain ⟨A, c, rfl, _, _⟩ := ho.inV
  have c0 := blk_at hblk 0 _ rfl
  go_enter Try.func71, Try.ntmps71
  go_upto_region 0 with fail
  refine wp_region_X #[true, true, true, false, false] 3 2 (by kernel_rfl) rfl ?_
  refine wpX_vt 0 (.slice A l.length c) rfl rfl (by kernel_rfl) (by kernel_rfl) (by kernel_rfl) (fun _ _ _ _ h => h) (by kernel_rfl) rfl (by rfl) (fun W' hW => by
    have z := (((Ext.refl w).drew).trans hW).cell c0
    go_simp) ?_
  simp only [List.setIfInBounds_toArray, List.set_cons_zero, List.set_cons_succ]
  refine wpX_vt 1 (.int .i64 v) rfl rfl (by kernel_rfl) (by kernel_rfl) (by kernel_rfl) (fun _ _ _ _ h => h) (by kernel_rfl) rfl (by rfl) (fun W' hW => by
    skip
    go_simp) ?_
  simp only [List.setIfInBounds_toArray, List.set_cons_zero, List.set_cons_succ]
  refine wpX_c 2 57 #[.slice none 0 0, .int .i64 v] rfl rfl (by kernel_rfl) rfl rfl (fun W => by go_simp) ?_
  intro W1 hW1
  have hX1 := ((Ext.refl w).drew).trans hW1
  refine (AppendUint_any _ [] v W1 (InV.nil W1) (by simp) hv.2).mono ?_
  rintro en w5 ⟨y5, rfl, ho5, he5⟩
  have hi5 : InB w5 y5 (uintB v) := by simpa using ho5.toV.inV
  refine ⟨_, rfl, he5, ?_⟩
  simp only [List.setIfInBounds_toArray, List.set_cons_zero, List.set_cons_succ]
  refine wpX_end rfl fun W7 hW7 => tail_seq 3 rfl (by kernel_rfl) ?_
  simp only [List.drop_succ_cons, List.drop_zero]
  have hX7 := (hX1.trans he5).trans hW7
  have hi7 := hi5.ext hW7
  have hblk7 := hX7.heap hblk
  have ho7 := ho.ext hX7
  have hln : (uintB v).length ≤ 100 := Nat.le_trans (uintB_len hv.2) (by omega)
  have hHLN := Lib.hid hln
  have hs7 := Nat.le_trans hs hX7.size
  clear hln hW1 hX1 hW7 hi5 ho5 he5 c0 hblk ho
  go_wp2_with (at_builtin; go_must (refine wpList_appendV elem_u8 (fun _ => rfl) rfl (.tmp 3) (.tmp 5) rfl base _ l rfl ho7 _ (uintB v) rfl hi7 (by have := hHLN.out; omega) (by omega) hs7 (Hold.out ?_)))
  refine Hold.mk fun v9 w9 ho9 hg9 => ?_
  obtain ⟨hB, hO, hblk9⟩ := Buf.put hblk7 ho7 ho9 hg9
  have f0 := blk_free hblk9 0
  have q0 := blk_at hblk9 0 _ rfl
  have hlt := heap_lt hblk9
  have hOO := (Only.of_ext (base := base) (g := g) hX7).trans hO
  obtain ⟨V9, d9, hv9, _, _⟩ := ho9.inV
  obtain ⟨n9, hn9⟩ : ∃ n9, n9 = (l ++ uintB v).length := ⟨_, rfl⟩
  rw [← hn9] at hv9
  subst hv9
  clear hn9
  clear ho9 hg9 hO hblk7 ho7 hi7 hX7 hblk9
  go_wp2_with fail
  refine NoPanic.normal ?_
  go_wp2_with fail
  refine bodyPost_ret (by simp [results, Try.results71, go_sem]; rfl) rfl ?_
  exact ⟨_, rfl, hB, hOO⟩
/-- the closure that appends a number -/
def cloV (g : Nat) : Value := .func (.func 71) #[] #[.pointer (some ⟨g, 0, none⟩)]
structure LS (base g g4 gp : Nat) (p : Plc) (w0 : World) (cur : List UInt8) (W : World) : Prop where
  buf : Buf base g W cur
  clo : W.heap[g4]? = some (.cells #[cloV g] 93 (0, 0))
  box : W.heap[gp]? = some (.cells #[.int .i64 p.kind, .int .i64 p.n, .int .i64 p.add] 75 (0, 0))
  only : Only base g w0 W
  size : base ≤ W.heap.size
theorem LS.next {base g g4 gp : Nat} {p : Plc} {w0 W W' : World} {cur cu : List UInt8} (h : LS base g g4 gp p w0 cur W) (hb : Buf base g W' cu) (ho : Only base g W W') : LS base g g4 gp p w0 cu W' :=
  ⟨hb, ho.box h.clo (h.buf.ne h.clo (by decide)) (by decide), ho.box h.box (h.buf.ne h.box (by decide)) (by decide), h.only.trans ho, Nat.le_trans h.size ho.size⟩
theorem blk3 {w : World} {g : Nat} {a b c : Value} {t : TypeId} (H : w.heap[g]? = some (.cells #[a, b, c] t (0, 0))) :
    w.cell? ⟨g, 0, none⟩ = some a ∧ w.cell? ⟨g, 1, none⟩ = some b ∧ w.cell? ⟨g, 2, none⟩ = some c := ⟨blk_at H 0 _ rfl, blk_at H 1 _ rfl, blk_at H 2 _ rfl⟩
set_option maxHeartbeats 4000000 in
set_option maxRecDepth 100000 in
theorem place19 (base g g4 : Nat) (l : List UInt8) (p : Plc) (w : World) (hb : Buf base g w l) (h4 : w.heap[g4]? = some (.cells #[cloV g] 93 (0, 0))) (hs : base ≤ w.heap.size) (hl : l.length ≤ 8000000) (hp : okPlc p) (ha : I64 p.add) :
    Calls Try.prog 72 #[.agg #[.int .i64 p.kind, .int .i64 p.n, .int .i64 p.add], .pointer (some ⟨g, 0, none⟩), .pointer (some ⟨g4, 0, none⟩)] w (BufPost base g (l ++ encPl p) w) := by
  have hkn := hp.kind_
  have hpn := pnB_len hp
  have HP := Lib.hid hp
  unfold I64 at ha
  obtain ⟨kk, hkk⟩ : ∃ kk : Int, kk = p.kind + if p.add = 0 then 0 else 8 := ⟨_, rfl⟩
  have hk16 : 1 ≤ kk ∧ kk ≤ 12 := by rw [hkk]; split <;> omega
  have HBK : Hid (Value.int .u8 kk = bv (pkB p)) := Lib.hid (by
    unfold pkB bv
    rw [← hkk]
    have : ((UInt8.ofNat kk.toNat).toNat : Int) = kk := by
      rw [UInt8.toNat_ofNat']
      omega
    rw [this])
  have HKK := Lib.hid hkk
  have wk : IntKind.u8.wrap kk = kk := by rw [IntKind.wrap_u8]; omega
  have HENC : Hid (encPl p = ([pkB p] ++ pnB p) ++ paB p) := Lib.hid rfl
  clear hkk hp
  go_enter Try.func72, Try.ntmps72
  go_upto_if 9 with fail
  have hA := (Ext.refl w).alloc (.cells #[.int .i64 p.kind, .int .i64 p.n, .int .i64 p.add] 75)
  have hLS : LS base g g4 w.heap.size p w l (w.alloc (.cells #[.int .i64 p.kind, .int .i64 p.n, .int .i64 p.add] 75)) := ⟨hb.ext hA, hA.heap h4, heap_alloc_new w _, Only.of_ext hA, Nat.le_trans hs hA.size⟩
  generalize w.alloc (.cells #[.int .i64 p.kind, .int .i64 p.n, .int .i64 p.add] 75) = W at *
  obtain ⟨gp, hgp⟩ : ∃ gp, gp = w.heap.size := ⟨_, rfl⟩
  rw [← hgp] at hLS ⊢
  clear hgp hA hb h4 hs
  obtain ⟨r0, r1, r2⟩ := blk3 hLS.box
  go_cut [4] (fun s wx => s = .int .i64 kk ∧ W = wx)
  case first =>
    by_cases h0 : p.add = 0
    · have d : (p.add != 0) = false := by simp [h0]
      have e : p.kind = kk := by rw [HKK.out, if_pos h0]; omega
      have HE := Lib.hid e
      clear h0 e
      go_wp2_with fail
      go_meet
      exact ⟨by rw [HE.out], rfl⟩
    · have d : (p.add != 0) = true := by simp [h0]
      have e : p.kind + 8 = kk := by rw [HKK.out, if_neg h0]
      have e2 : IntKind.i64.wrap (p.kind + 8) = kk := by rw [e]; exact wrap_in19 (by omega)
      clear h0 e
      go_wp2_with fail
      go_meet
      exact ⟨rfl, rfl⟩
  obtain ⟨rfl, rfl⟩ := hcut
  have hBF := hLS.buf
  have hsz := hLS.size
  obtain ⟨r0, r1, r2⟩ := blk3 hLS.box
  obtain ⟨y5, hbk5, hoo5⟩ := hBF
  obtain ⟨A5, c5, hy5, _, _⟩ := hoo5.inV
  obtain ⟨n5, hn5⟩ : ∃ n5, n5 = (l).length := ⟨_, rfl⟩
  have hcl5 : n5 ≤ 9000000 := by rw [hn5]; omega
  rw [← hn5] at hy5
  subst hy5
  have HN5 := Lib.hid hn5
  clear hn5
  have hld5 := blk_at hbk5 0 _ rfl
  have hA5 := (Ext.refl W).alloc (.cells #[.int .u8 kk] 5)
  have hin5 : InB ((W).alloc (.cells #[.int .u8 kk] 5)) (.slice (some ⟨(W).heap.size, 0, none⟩) 1 1) [pkB p] := (by rw [HBK.out]; exact ⟨_, 1, rfl, Nat.le_refl _, Rd_blk (heap_alloc_new _ _)⟩)
  have hs5 := Nat.le_trans hsz hA5.size
  go_wp2_with (at_builtin; go_must (refine wpList_appendV elem_u8 (fun _ => rfl) rfl (.tmp 12) (.tmp 15) rfl base _ (l) rfl (hoo5.ext hA5) _ [pkB p] rfl hin5 (by have := HN5.out; simp only [List.length_cons, List.length_nil]; omega) (by omega) hs5 (Hold.out ?_)))
  refine Hold.mk fun v9 w9 ho9 hg9 => ?_
  obtain ⟨hB9, hO9, hblk9⟩ := Buf.put (hA5.heap hbk5) (hoo5.ext hA5) ho9 hg9
  have hOO9 := (Only.of_ext (base := base) (g := g) hA5).trans hO9
  obtain ⟨V9, d9, hv9, _, _⟩ := ho9.inV
  obtain ⟨n9, hn9⟩ : ∃ n9, n9 = ((l) ++ [pkB p]).length := ⟨_, rfl⟩
  rw [← hn9] at hv9
  subst hv9
  clear hn9
  have f9 := blk_free hblk9 0
  have q9 := blk_at hblk9 0 _ rfl
  have hlt9 := heap_lt hblk9
  clear ho9 hg9 hO9 hblk9 hbk5 hoo5 hA5 hin5 hs5 hld5 hsz
  have hL2 := hLS.next hB9 hOO9
  clear hB9 hOO9 hLS r0 r1 r2
  go_upto_region 5 with fail
  generalize w9.setCell ⟨g, 0, none⟩ (.slice V9 n9 d9) = W1 at *
  obtain ⟨cu, hcu⟩ : ∃ cu, cu = l ++ [pkB p] := ⟨_, rfl⟩
  have hcl : cu.length ≤ 8000001 := by rw [hcu, List.length_append]; simp only [List.length_cons, List.length_nil]; omega
  rw [← hcu] at hL2
  have HCU := Lib.hid hcu
  clear hcu f9 q9 hlt9
  obtain ⟨r0, r1, r2⟩ := blk3 hL2.box
  have c4 := blk_at hL2.clo 0 _ rfl
  go_upto_if 19 with fail
  go_cut [19] (fun _ wx => LS base g g4 gp p w (cu ++ pnB p) wx)
  case first =>
    by_cases h1 : p.kind = 1
    · have d : (p.kind != 1) = false := by simp [h1]
      have HE : Hid (pnB p = []) := Lib.hid (by unfold pnB; rw [if_pos h1])
      clear h1
      go_wp2_with fail
      go_meet
      rw [HE.out, List.append_nil]
      exact hL2
    · have d : (p.kind != 1) = true := by simp [h1]
      have HE : Hid (pnB p = uintB p.n) := Lib.hid (by unfold pnB; rw [if_neg h1])
      unfold cloV at c4
      clear h1
      go_wp2_with fail
      refine (unsigned19 base g cu p.n W1 hL2.buf hL2.size (by omega) (by omega)).mono ?_
      rintro en w11 ⟨rv, rfl, hb11, ho11⟩
      have hL11 := hL2.next hb11 ho11
      rw [← HE.out] at hL11
      clear hL2 hb11 ho11 r0 r1 r2 c4
      go_wp2_with fail
      go_meet
      exact hL11
  clear hL2 r0 r1 r2 c4
  obtain ⟨W2, rfl⟩ : ∃ W : World, W = wc := ⟨_, rfl⟩
  obtain ⟨cv, hcv⟩ : ∃ cv, cv = cu ++ pnB p := ⟨_, rfl⟩
  have hcl2 : cv.length ≤ 8000100 := by rw [hcv, List.length_append]; omega
  rw [← hcv] at hcut
  have HCV : Hid (l ++ encPl p = cv ++ paB p) := Lib.hid (by rw [hcv, HCU.out, HENC.out]; simp only [List.append_assoc])
  clear hcv
  obtain ⟨r0, r1, r2⟩ := blk3 hcut.box
  by_cases h0 : p.add = 0
  · have d : (p.add != 0) = false := by simp [h0]
    have HE : Hid (paB p = []) := Lib.hid (by unfold paB; rw [if_pos h0])
    clear h0
    go_wp2_with fail
    refine bodyPost_ret (by simp [results, Try.results72, go_sem]; rfl) rfl ?_
    exact ⟨_, rfl, by rw [HCV.out, HE.out, List.append_nil]; exact hcut.buf, hcut.only⟩
  · have d : (p.add != 0) = true := by simp [h0]
    have HE : Hid (paB p = leb (zig p.add)) := Lib.hid (by unfold paB; rw [if_neg h0])
    clear h0
    obtain ⟨y, hblk, ho⟩ := hcut.buf
    obtain ⟨A, c, rfl, _, _⟩ := ho.inV
    have c0 := blk_at hblk 0 _ rfl
    obtain ⟨nv, hnv⟩ : ∃ n, n = cv.length := ⟨_, rfl⟩
    rw [← hnv] at c0 hblk ho
    have HNV := Lib.hid hnv
    have hnv2 : nv ≤ 8000100 := by rw [hnv]; exact hcl2
    clear hnv
    go_upto_region 8 with fail
    refine wp_region_X #[true, true, true, true, false, false] 4 2 (by kernel_rfl) rfl ?_
    refine wpX_vt 0 (.slice A nv c) rfl rfl (by kernel_rfl) (by kernel_rfl) (by kernel_rfl) (fun _ _ _ _ h => h) (by kernel_rfl) rfl (by rfl) (fun W' hW => by
      have z := (((Ext.refl W2).drew).trans hW).cell c0
      go_simp) ?_
    simp only [List.setIfInBounds_toArray, List.set_cons_zero, List.set_cons_succ]
    refine wpX_vt 1 (.pointer (some ⟨gp, 2, none⟩)) rfl rfl (by kernel_rfl) (by kernel_rfl) (by kernel_rfl) (fun _ _ _ _ h => h) (by kernel_rfl) rfl (by rfl) (fun W' hW => by
      skip
      go_simp) ?_
    simp only [List.setIfInBounds_toArray, List.set_cons_zero, List.set_cons_succ]
    refine wpX_vt 2 (.int .i64 p.add) rfl rfl (by kernel_rfl) (by kernel_rfl) (by kernel_rfl) (fun _ _ _ _ h => h) (by kernel_rfl) rfl (by rfl) (fun W' hW => by
      have z := (((Ext.refl W2).drew).trans hW).cell r2
      go_simp) ?_
    simp only [List.setIfInBounds_toArray, List.set_cons_zero, List.set_cons_succ]
    refine wpX_c 3 59 #[.slice none 0 0, .int .i64 p.add] rfl rfl (by kernel_rfl) rfl rfl (fun W => by go_simp) ?_
    intro W3 hW3
    have hX3 := ((Ext.refl W2).drew).trans hW3
    refine (AppendInt_any _ [] p.add W3 (InV.nil W3) (by simp) ha.1 ha.2).mono ?_
    rintro en w5 ⟨y5, rfl, ho5, he5⟩
    have hi5 : InB w5 y5 (leb (zig p.add)) := by simpa using ho5.toV.inV
    refine ⟨_, rfl, he5, ?_⟩
    simp only [List.setIfInBounds_toArray, List.set_cons_zero, List.set_cons_succ]
    refine wpX_end rfl fun W7 hW7 => tail_seq 4 rfl (by kernel_rfl) ?_
    simp only [List.drop_succ_cons, List.drop_zero]
    have hX7 := (hX3.trans he5).trans hW7
    have hi7 := hi5.ext hW7
    have hblk7 := hX7.heap hblk
    have ho7 := ho.ext hX7
    have hln : (leb (zig p.add)).length ≤ 100 := Nat.le_trans (leb_len10 (zig_lt ha.1 ha.2)) (by omega)
    have hHLN := Lib.hid hln
    have hs7 := Nat.le_trans hcut.size hX7.size
    obtain ⟨A5, c5, hy5, _, _⟩ := id hi7
    obtain ⟨n5, hn5⟩ : ∃ n5, n5 = (leb (zig p.add)).length := ⟨_, rfl⟩
    rw [← hn5] at hy5
    subst hy5
    have hn100 : n5 ≤ 100 := by rw [hn5]; exact hln
    have HN5 := Lib.hid hn5
    have honly := hcut.only
    clear hln hn5 hW3 hX3 hW7 hi5 ho5 he5 c0 r0 r1 r2 hblk ho hcut
    go_wp2_with (at_builtin; go_must (refine wpList_appendV elem_u8 (fun _ => rfl) rfl (.tmp 27) (.tmp 30) rfl base _ cv rfl ho7 _ (leb (zig p.add)) rfl hi7 (by have := HNV.out; have := hHLN.out; omega) (by omega) hs7 (Hold.out ?_)))
    refine Hold.mk fun v9 w9 ho9 hg9 => ?_
    obtain ⟨hB, hO, hblk9⟩ := Buf.put hblk7 ho7 ho9 hg9
    have f0 := blk_free hblk9 0
    have q0 := blk_at hblk9 0 _ rfl
    have hlt := heap_lt hblk9
    have hOO := honly.trans ((Only.of_ext (base := base) (g := g) hX7).trans hO)
    obtain ⟨V9, d9, hv9, _, _⟩ := ho9.inV
    obtain ⟨n9, hn9⟩ : ∃ n9, n9 = (cv ++ leb (zig p.add)).length := ⟨_, rfl⟩
    rw [← hn9] at hv9
    subst hv9
    clear hn9 ho9 hg9 hO hblk7 ho7 hi7 hX7 hblk9 honly
    go_wp2_with fail
    refine NoPanic.normal ?_
    go_wp2_with fail
    refine bodyPost_ret (by simp [results, Try.results72, go_sem]; rfl) rfl ?_
    exact ⟨_, rfl, by rw [HCV.out, HE.out]; exact hB, hOO⟩
end Go.Proofs.Ytokmbdeafjmcjaa
