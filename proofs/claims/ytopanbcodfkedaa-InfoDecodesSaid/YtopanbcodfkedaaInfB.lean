/- A map from numbers to Booleans as a set; the walk of rightAttrs. -/
import Derived.Test.YtopanbcodfkedaaInfA
import Derived.Maps.Own
import Derived.Maps.Views
import Derived.Maps.OwnOps
namespace Go.Proofs.Ytopanbcodfkedaa
open Go.RowKit
set_option linter.unusedVariables false
set_option linter.unusedSimpArgs false

def heldR (v : Value) : Option (DataW Value × List MemPlace) := some (.held v, [])
theorem wf_int {n : Int} (h : I64 n) : (Lit.int .i64 n).wf = true := by
  unfold I64 at h
  simp [Lit.wf, IntKind.min, IntKind.max, IntKind.bits, IntKind.signed]
  omega
theorem in_law : Maps.Keyed Try.prog 3 := Maps.int_keyed Try.underlying3
theorem key_in {k : Int} (h : I64 k) : keyOf Try.prog 3 (.int .i64 k) = some (.int .i64 k) := Maps.keyOf_int_mk Try.underlying3 (wf_int h)
/-- a set of numbers -/
def MI (b n : Nat) (W : World) (E : Int → Bool) : Prop := ∃ D : DataW Value, W.ownsMap Try.prog 3 heldR b n D ∧ Maps.IsMap D ∧ ∀ k, I64 k → ∀ zd, D.atKey (.int .i64 k) zd = if E k then .held (.bool true) else zd
theorem MI.made (w : World) : MI w.heap.size 0 (w.alloc (.map #[] 0)) (fun _ => false) := ⟨.map [], World.ownsMap_made w _ _ _, Maps.isMap_empty, fun k _ zd => rfl⟩
section
variable {b n : Nat} {W W' : World} {E : Int → Bool}
theorem MI.blk (h : MI b n W E) : b < W.heap.size := by obtain ⟨D, h1, _⟩ := h; exact h1.lt
theorem MI.ext (h : MI b n W E) (he : Ext W W') : MI b n W' E := by
  obtain ⟨D, h1, h2, h3⟩ := h
  exact ⟨D, h1.kept (he.grownBy none) (by simp), h2, h3⟩
theorem MI.kept (h : MI b n W E) {g : Option Nat} (he : W.grownBy W' g) (hg : g ≠ some b) : MI b n W' E := by
  obtain ⟨D, h1, h2, h3⟩ := h
  exact ⟨D, h1.kept he (fun e => hg e.symm), h2, h3⟩
theorem zero_bo (w : World) : (zeroValue 4).run Try.prog w = .ok (.bool false) w := by go_simp
set_option maxRecDepth 100000 in
theorem MI.look (h : MI b n W E) {k : Int} (h1 : I64 k) :
    (Instr.lookup 104 (.map (some b)) (.int .i64 k) false).run Try.prog W = .ok (.bool (E k)) W := by
  obtain ⟨D, ⟨es, clock, hb, F, _, hD⟩, _, hat⟩ := h
  have hat' := hat k h1
  rw [hD] at hat'
  rcases Maps.fit_look (t := 104) (e := 4) false in_law Try.underlying104 (zero_bo W) hb F (key_in h1) with ⟨hr, _, hz⟩ | ⟨e0, y, _, _, hr, hy, hz, _⟩
  · rw [hr]
    cases hE : E k with
    | false => rfl
    | true =>
      have := (hz .nil).symm.trans (hat' .nil)
      rw [hE] at this
      cases this
  · rw [hr]
    have hy' : y = (.held e0.val, []) := by unfold heldR at hy; injection hy with hy; exact hy.symm
    cases hE : E k with
    | false =>
      have := (hz .nil).symm.trans (hat' .nil)
      rw [hE, hy'] at this
      cases this
    | true =>
      have := (hz .nil).symm.trans (hat' .nil)
      rw [hE, hy'] at this
      simp only [if_true, DataW.held.injEq] at this
      rw [this]
      rfl
set_option maxRecDepth 100000 in
theorem MI.put (h : MI b n W E) {k : Int} (h1 : I64 k) (hn : n < 9223372036854775807) :
    ∃ W2, (Instr.mapUpdate 104 (.map (some b)) (.int .i64 k) (.bool true)).run Try.prog W = .ok () W2 ∧ MI b (n + 1) W2 (fun x => decide (x = k) || E x) ∧ W.grownBy W2 (some b) := by
  obtain ⟨D, hM, hI, hat⟩ := h
  obtain ⟨W2, hr, h4, h5⟩ := hM.update (t := 104) (e := 4) in_law Try.underlying104 (by simp only [maxLen]; omega) (key_in h1) (d := .held (.bool true)) (ps := []) rfl
  refine ⟨W2, hr, ⟨_, h4, hI.put _ _, fun x hx zd => ?_⟩, h5⟩
  by_cases hxk : x = k
  · subst hxk
    simp only [decide_true, Bool.true_or, if_true]
    exact Maps.atKey_put_same hI (in_law.key (key_in h1)) _ _
  · simp only [hxk, decide_false, Bool.false_or]
    have hne : (Lit.int .i64 x) ≠ .int .i64 k := fun e => hxk (by injection e)
    rw [Maps.atKey_put_other hne]
    exact hat x hx zd
end
/-! rightAttrs -/
def IffB (d : Bool) (p : Prop) : Prop := d = true ↔ p
/-- some attributes stand ahead, all right -/
def PreA (l : List Att) (j : Nat) : Prop := (∀ a ∈ l.take j, okAtt a) ∧ ((l.take j).map Att.name).Nodup
def seenA (l : List Att) (x : Int) : Bool := decide (x ∈ l.map Att.name)
theorem PreA.succ {l : List Att} {j : Nat} (h : PreA l j) (hj : j < l.length) (ho : okAtt l[j]) (hs : seenA (l.take j) l[j].name = false) : PreA l (j + 1) := by
  have e : l.take (j + 1) = l.take j ++ [l[j]] := List.take_succ_eq_append_getElem hj
  unfold PreA
  rw [e]
  refine ⟨fun a ha => ?_, ?_⟩
  · rcases List.mem_append.1 ha with h1 | h1
    · exact h.1 a h1
    · simp only [List.mem_singleton] at h1; subst h1; exact ho
  · rw [List.map_append, List.nodup_append]
    refine ⟨h.2, by simp, fun x hx y hy => ?_⟩
    simp only [List.map_cons, List.map_nil, List.mem_singleton] at hy
    subst hy
    rintro rfl
    simp only [seenA, decide_eq_false_iff_not] at hs
    exact hs hx
theorem okAtts_seen {l : List Att} (h : (l.map Att.name).Nodup) {j : Nat} (hj : j < l.length) : seenA (l.take j) l[j].name = false := by
  have e : l.take (j + 1) = l.take j ++ [l[j]] := List.take_succ_eq_append_getElem hj
  have h2 : ((l.take (j + 1)).map Att.name).Nodup := h.sublist ((List.take_sublist _ _).map _)
  rw [e, List.map_append, List.nodup_append] at h2
  simp only [seenA, decide_eq_false_iff_not]
  intro hm
  exact h2.2.2 _ hm l[j].name (by simp) rfl
theorem seenA_succ {l : List Att} {j : Nat} (hj : j < l.length) (x : Int) : seenA (l.take (j + 1)) x = (decide (x = l[j].name) || seenA (l.take j) x) := by
  have e : l.take (j + 1) = l.take j ++ [l[j]] := List.take_succ_eq_append_getElem hj
  unfold seenA
  rw [e, List.map_append]
  simp only [List.mem_append, List.map_cons, List.map_nil, List.mem_singleton]
  by_cases h : x = l[j].name <;> simp [h]
/-- what a value must be like -/
def okVal (a : Att) : Prop := (a.form = 1 ∧ 0 ≤ a.value ∧ a.value ≤ 1099511627776 ∧ a.text = ByteArray.empty) ∨ (a.form = 2 ∧ a.text = ByteArray.empty) ∨ (a.form = 3 ∧ a.value = 0 ∧ a.text.size ≤ 40) ∨ (a.form = 4 ∧ a.value = 1 ∧ a.text = ByteArray.empty)
theorem txt_e (t : ByteArray) : t.toList.isEmpty = true ↔ t = ByteArray.empty := by
  rw [Lib.toList_data, List.isEmpty_iff]
  constructor
  · intro h
    cases t
    simp only [Array.toList_eq_nil_iff] at h
    subst h
    rfl
  · rintro rfl; rfl
set_option maxHeartbeats 40000000 in
set_option maxRecDepth 100000 in
theorem rightAttrs_any (l : List Att) (v : Value) (w : World) (hv : InR attCells w v l) (hI : ∀ a ∈ l, a.I) (hL : l.length ≤ 9223372036854775807) :
    Calls Try.prog 30 #[v] w (Tells (okAtts l) w) := by
  obtain ⟨A, c, rfl, _⟩ := id hv
  obtain ⟨n, hn⟩ : ∃ n, n = l.length := ⟨_, rfl⟩
  rw [← hn] at hv hL ⊢
  have HN := Lib.hid hn
  have HV := Lib.hid hv
  have HI := Lib.hid hI
  clear hn hv hI
  by_cases e0 : 12 < n
  · have d0 : decide ((12 : Int) < (n : Int)) = true := by simp; omega
    have HX : Hid (¬ okAtts l) := Lib.hid (fun h => by have := h.1; have := HN.out; omega)
    go_enter Try.func30, Try.ntmps30
    go_wp2_with fail
    go_ret
    exact Tells.no HX.out (Ext.refl w)
  have d0 : decide ((12 : Int) < (n : Int)) = false := by simp; omega
  go_enter Try.func30, Try.ntmps30
  have hmk : (Instr.makeMap 104 none).run Try.prog w = .ok (.map (some w.heap.size)) (w.alloc (.map #[] 0)) := rfl
  go_upto_region 4 with fail
  clear hmk
  obtain ⟨b, hb⟩ : ∃ b, b = w.heap.size := ⟨_, rfl⟩
  have hM := MI.made w
  have hE1 := (Ext.refl w).alloc (.map #[] 0)
  have hbw : w.heap.size ≤ b := by omega
  rw [← hb] at hM ⊢
  generalize w.alloc (.map #[] 0) = W1 at *
  have hM2 : MI b 0 W1 (fun x => seenA (l.take 0) x) := by rw [List.take_zero]; exact hM
  clear hM hb
  go_wp2_with fail
  go_loopw [13] (fun i wr => ∃ (j : Nat), j ≤ n ∧ i = .int .i64 (j : Int) ∧ Hid (PreA l j) ∧ MI b j wr (fun x => seenA (l.take j) x) ∧ Ext w wr) (fun i _ => n - (intOf i).toNat)
  case atStart => exact ⟨0, by omega, rfl, Lib.hid (by simp [PreA]), hM2, hE1⟩
  case round =>
    clear hM2 hE1
    obtain ⟨j, hj, rfl, HP, hM, hX⟩ := hrel
    obtain ⟨wo, rfl⟩ : ∃ wo : World, wo = wr := ⟨_, rfl⟩
    by_cases hlt : j < n
    · have hij : (j : Int) < (n : Int) := by omega
      have hlt' : j < l.length := by rw [← HN.out]; exact hlt
      obtain ⟨bb, oo, rfl, hra⟩ := (HV.out.ext hX).at_ (k := 4) (fun z hz => rfl) (by omega) hlt'
      have HNO : Hid (¬ okAtt l[j] → ¬ okAtts l) := Lib.hid (fun h h2 => h (h2.2.1 _ (List.getElem_mem hlt')))
      have HNS : Hid (seenA (l.take j) l[j].name = true → ¬ okAtts l) := Lib.hid (fun h h2 => by rw [okAtts_seen h2.2.2 hlt'] at h; cases h)
      have HSU : Hid (okAtt l[j] → seenA (l.take j) l[j].name = false → PreA l (j + 1)) := Lib.hid (fun h h2 => HP.out.succ hlt' h h2)
      have HEN : Hid (∀ x, seenA (l.take (j + 1)) x = (decide (x = l[j].name) || seenA (l.take j) x)) := Lib.hid (fun x => seenA_succ hlt' x)
      have haI := HI.out _ (List.getElem_mem hlt')
      generalize l.take j = pre at *
      generalize l[j] = a at *
      have hld := att_load hra
      obtain ⟨hst, hG, hXG⟩ := box_new (P := Try.prog) wo 40 #[.int .i64 0, .int .i64 0, .int .i64 0, .string ByteArray.empty] #[.int .i64 a.name, .int .i64 a.form, .int .i64 a.value, .string a.text] at_size rfl (by simp [Value.oneCell'])
      go_upto_region 7 with first | refine wpList_load_run rfl 40 (.tmp 15) rfl _ _ rfl hld ?_ | refine wpList_store_run rfl 40 (.tmp 5) (.tmp 16) rfl _ _ _ rfl rfl hst ?_
      obtain ⟨g5, hg5⟩ : ∃ g, g = wo.heap.size := ⟨_, rfl⟩
      rw [← hg5] at hG hXG ⊢
      have hbg : g5 ≠ b := by have := hM.blk; omega
      generalize (wo.alloc (.cells #[.int .i64 0, .int .i64 0, .int .i64 0, .string ByteArray.empty] 40)).setRow g5 #[.int .i64 a.name, .int .i64 a.form, .int .i64 a.value, .string a.text] = wg at *
      try dsimp only [Act.put]
      have hMg := hM.ext hXG
      have hXg := hX.trans hXG
      obtain ⟨r0, r1, r2, r3⟩ := blkR hG
      clear hst hld hra hXG hX hM hg5
      go_cut [30] (fun s wx => ∃ d : Bool, s = .bool d ∧ (d = false ↔ (1 ≤ a.name ∧ a.name ≤ 63 ∧ seenA pre a.name = false)) ∧ wx = wg)
      case first =>
        by_cases e1 : a.name < 1
        case pos =>
          have t1 : decide (a.name < 1) = true := by first | (simpa using e1) | (simp; omega)
          go_wp2_with fail
          go_meet
          exact ⟨true, rfl, ⟨fun h => (by cases h), fun h => (by omega)⟩, rfl⟩
        have t1 : decide (a.name < 1) = false := by first | (simpa using e1) | (simp; omega)
        by_cases e2 : 63 < a.name
        case pos =>
          have t2 : decide (63 < a.name) = true := by first | (simpa using e2) | (simp; omega)
          go_wp2_with fail
          go_meet
          exact ⟨true, rfl, ⟨fun h => (by cases h), fun h => (by omega)⟩, rfl⟩
        have t2 : decide (63 < a.name) = false := by first | (simpa using e2) | (simp; omega)
        have hlk := hMg.look (k := a.name) (by unfold I64; omega)
        obtain ⟨sb, hsb⟩ : ∃ s, s = seenA pre a.name := ⟨_, rfl⟩
        rw [← hsb] at hlk
        have HQ : Hid (sb = false ↔ (1 ≤ a.name ∧ a.name ≤ 63 ∧ seenA pre a.name = false)) := Lib.hid (by rw [← hsb]; exact ⟨fun h => ⟨by omega, by omega, h⟩, fun h => h.2.2⟩)
        clear hsb
        go_wp2_with fail
        go_meet
        exact ⟨sb, rfl, HQ.out, rfl⟩
      obtain ⟨d, rfl, hd, hwe⟩ := hcut
      subst hwe
      obtain ⟨w5, rfl⟩ : ∃ W : World, W = wc := ⟨_, rfl⟩
      cases d with
      | true =>
        have HX : Hid (¬ okAtts l) := Lib.hid (by
          by_cases hs : seenA pre a.name = false
          · refine HNO.out (fun ho => ?_)
            have := hd.2 ⟨ho.1.1, ho.1.2, hs⟩
            cases this
          · exact HNS.out (by simpa using hs))
        clear hd
        go_wp2_with fail
        go_ret
        exact Tells.no HX.out hXg
      | false =>
      obtain ⟨q1, q2, q3⟩ := hd.1 rfl
      have HQ3 := Lib.hid q3
      have HEX : Hid (∀ x, seenA (l.take (j + 1)) x = (decide (x = a.name) || seenA pre x)) := HEN
      clear hd q3
      go_upto_region 9 with fail
      obtain ⟨W2, hrun, hM2, hg2⟩ := hMg.put (k := a.name) (by unfold I64; omega) (by omega)
      have hG2 := blk_grown hG hg2 (fun e => hbg (by cases e; rfl))
      have hX2 : Ext w W2 := hXg.grown hg2 (fun k e => by cases e; exact hbw)
      have hMN : MI b (j + 1) W2 (fun x => seenA (l.take (j + 1)) x) := by
        have e : (fun x => seenA (l.take (j + 1)) x) = (fun x => decide (x = a.name) || seenA pre x) := funext HEX.out
        rw [e]
        exact hM2
      clear hM2 hg2 HEX HEN hMg
      go_upto_region 10 with first | refine wpList_mapUpdate_run (w' := W2) rfl (.tmp 31) (.tmp 33) (.const (.bool true)) 104 rfl _ _ _ rfl rfl rfl hrun ?_
      clear hrun hG hXg r0 r1 r2 r3
      obtain ⟨r0, r1, r2, r3⟩ := blkR hG2
      go_upto_region 11 with fail
      obtain ⟨w6, hw6⟩ : ∃ W : World, W = W2 := ⟨_, rfl⟩
      rw [← hw6] at hX2 hMN r0 r1 r2 r3 ⊢
      clear hw6 hG2
      have k1 := haI.text
      have HV1 : Hid (okVal a → PreA l (j + 1)) := Lib.hid (fun h => HSU.out ⟨⟨q1, q2⟩, h⟩ HQ3.out)
      have HV2 : Hid (¬ okVal a → ¬ okAtts l) := Lib.hid (fun h => HNO.out (fun h2 => h h2.2))
      have hwj : IntKind.i64.wrap ((j : Int) + 1) = ((j + 1 : Nat) : Int) := by rw [IntKind.wrap_i64]; omega
      clear HSU HNO HNS HP HQ3
      by_cases g1 : a.form = 1
      case pos =>
        have f1 : decide (a.form = 1) = true := by simp; omega
        by_cases g2 : 0 ≤ a.value
        case neg =>
          have f2 : decide (0 ≤ a.value) = false := by simp; omega
          have HQ : Hid (¬ okAtts l) := Lib.hid (HV2.out (by unfold okVal; omega))
          go_wp2_with fail
          go_ret
          exact Tells.no HQ.out hX2
        have f2 : decide (0 ≤ a.value) = true := by simp; omega
        by_cases g3 : a.value ≤ 1099511627776
        case neg =>
          have f3 : decide (a.value ≤ 1099511627776) = false := by simp; omega
          have HQ : Hid (¬ okAtts l) := Lib.hid (HV2.out (by unfold okVal; omega))
          go_wp2_with fail
          go_ret
          exact Tells.no HQ.out hX2
        have f3 : decide (a.value ≤ 1099511627776) = true := by simp; omega
        cases te : a.text.toList.isEmpty
        case false =>
          have HQ : Hid (¬ okAtts l) := Lib.hid (HV2.out (fun h => by
            have : a.text = ByteArray.empty := by unfold okVal at h; first | exact h.elim (fun h => h.2.2.2) (fun h => by omega) | (rcases h with h | h | h | h <;> first | exact h.2.2.2 | exact h.2.2 | exact h.2 | omega)
            rw [(txt_e _).2 this] at te
            cases te))
          go_wp2_with fail
          go_ret
          exact Tells.no HQ.out hX2
        have HTE := Lib.hid ((txt_e _).1 te)
        have HQ : Hid (PreA l (j + 1)) := Lib.hid (HV1.out (.inl ⟨g1, g2, g3, HTE.out⟩))
        go_wp2_with fail
        go_roundw
        case rel => exact ⟨j + 1, by omega, by first | (with_reducible rfl) | go_num, HQ, hMN, hX2⟩
        case measure => simp [intOf]; omega
      have f1 : decide (a.form = 1) = false := by simp; omega
      by_cases g2 : a.form = 2
      case pos =>
        have f2 : decide (a.form = 2) = true := by simp; omega
        cases te : a.text.toList.isEmpty
        case false =>
          have HQ : Hid (¬ okAtts l) := Lib.hid (HV2.out (fun h => by
            have : a.text = ByteArray.empty := by unfold okVal at h; first | exact h.elim (fun h => h.2.2.2) (fun h => by omega) | (rcases h with h | h | h | h <;> first | exact h.2.2.2 | exact h.2.2 | exact h.2 | omega)
            rw [(txt_e _).2 this] at te
            cases te))
          go_wp2_with fail
          go_ret
          exact Tells.no HQ.out hX2
        have HTE := Lib.hid ((txt_e _).1 te)
        have HQ : Hid (PreA l (j + 1)) := Lib.hid (HV1.out (.inr (.inl ⟨g2, HTE.out⟩)))
        go_wp2_with fail
        go_roundw
        case rel => exact ⟨j + 1, by omega, by first | (with_reducible rfl) | go_num, HQ, hMN, hX2⟩
        case measure => simp [intOf]; omega
      have f2 : decide (a.form = 2) = false := by simp; omega
      by_cases g3 : a.form = 3
      case pos =>
        have f3 : decide (a.form = 3) = true := by simp; omega
        by_cases g4 : a.value = 0
        case neg =>
          have f4 : decide (a.value = 0) = false := by simp; omega
          have HQ : Hid (¬ okAtts l) := Lib.hid (HV2.out (by unfold okVal; omega))
          go_wp2_with fail
          go_ret
          exact Tells.no HQ.out hX2
        have f4 : decide (a.value = 0) = true := by simp; omega
        by_cases g5' : a.text.size ≤ 40
        case neg =>
          have f5 : decide ((a.text.size : Int) ≤ 40) = false := by simp; omega
          have HQ : Hid (¬ okAtts l) := Lib.hid (HV2.out (by unfold okVal; omega))
          go_wp2_with fail
          go_ret
          exact Tells.no HQ.out hX2
        have f5 : decide ((a.text.size : Int) ≤ 40) = true := by simp; omega
        have HQ : Hid (PreA l (j + 1)) := Lib.hid (HV1.out (.inr (.inr (.inl ⟨g3, g4, g5'⟩))))
        go_wp2_with fail
        go_roundw
        case rel => exact ⟨j + 1, by omega, by first | (with_reducible rfl) | go_num, HQ, hMN, hX2⟩
        case measure => simp [intOf]; omega
      have f3 : decide (a.form = 3) = false := by simp; omega
      by_cases g4 : a.form = 4
      case pos =>
        have f4 : decide (a.form = 4) = true := by simp; omega
        by_cases g5' : a.value = 1
        case neg =>
          have f5 : decide (a.value = 1) = false := by simp; omega
          have HQ : Hid (¬ okAtts l) := Lib.hid (HV2.out (by unfold okVal; omega))
          go_wp2_with fail
          go_ret
          exact Tells.no HQ.out hX2
        have f5 : decide (a.value = 1) = true := by simp; omega
        cases te : a.text.toList.isEmpty
        case false =>
          have HQ : Hid (¬ okAtts l) := Lib.hid (HV2.out (fun h => by
            have : a.text = ByteArray.empty := by unfold okVal at h; first | exact h.elim (fun h => h.2.2.2) (fun h => by omega) | (rcases h with h | h | h | h <;> first | exact h.2.2.2 | exact h.2.2 | exact h.2 | omega)
            rw [(txt_e _).2 this] at te
            cases te))
          go_wp2_with fail
          go_ret
          exact Tells.no HQ.out hX2
        have HTE := Lib.hid ((txt_e _).1 te)
        have HQ : Hid (PreA l (j + 1)) := Lib.hid (HV1.out (.inr (.inr (.inr ⟨g4, g5', HTE.out⟩))))
        go_wp2_with fail
        go_roundw
        case rel => exact ⟨j + 1, by omega, by first | (with_reducible rfl) | go_num, HQ, hMN, hX2⟩
        case measure => simp [intOf]; omega
      have f4 : decide (a.form = 4) = false := by simp; omega
      have HQ : Hid (¬ okAtts l) := Lib.hid (HV2.out (by unfold okVal; omega))
      go_wp2_with fail
      go_ret
      exact Tells.no HQ.out hX2
    · have hij : ¬ (j : Int) < (n : Int) := by omega
      have HT : Hid (okAtts l) := Lib.hid (by
        have e : l.take j = l := List.take_of_length_le (by have := HN.out; omega)
        have h := HP.out
        unfold PreA at h
        rw [e] at h
        exact ⟨by have := HN.out; omega, h.1, h.2⟩)
      go_wp2_with fail
      go_ret
      exact Tells.yes HT.out hX
end Go.Proofs.Ytopanbcodfkedaa
