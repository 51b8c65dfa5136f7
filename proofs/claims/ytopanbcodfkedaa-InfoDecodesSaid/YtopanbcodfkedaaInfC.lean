/- What may be encoded: the walk of info.Right. -/
import Derived.Test.YtopanbcodfkedaaInfB
namespace Go.Proofs.Ytopanbcodfkedaa
open Go.RowKit
set_option linter.unusedVariables false
set_option linter.unusedSimpArgs false

def PreE (l : List Ent) (j : Nat) : Prop := ∀ i (h : i < l.length), i < j → okEnt (l.take i) l[i]
theorem PreE.succ {l : List Ent} {j : Nat} (h : PreE l j) (hj : j < l.length) (ho : okEnt (l.take j) l[j]) : PreE l (j + 1) := fun i hi hij => by
  by_cases e : i = j
  · subst e; exact ho
  · exact h i hi (by omega)
def okDepth (pre : List Ent) (e : Ent) : Prop := match pre.getLast? with
  | none => e.depth = 0
  | some p => 1 ≤ e.depth ∧ e.depth ≤ 32 ∧ e.depth ≤ p.depth + 1
theorem okEnt_iff (pre : List Ent) (e : Ent) : okEnt pre e ↔ okDepth pre e ∧ (1 ≤ e.tag ∧ e.tag ≤ 63) ∧ okAtts e.attrs := Iff.rfl
theorem PreE.depth {l : List Ent} {j : Nat} (h : PreE l j) {i : Nat} (hi : i < l.length) (hij : i < j) : 0 ≤ l[i].depth ∧ l[i].depth ≤ 32 := by
  have := (h i hi hij).1
  split at this <;> omega
theorem getLast_take {l : List Ent} {j : Nat} (hj : j < l.length) : (l.take (j + 1)).getLast? = some l[j] := by
  rw [List.take_succ_eq_append_getElem hj, List.getLast?_concat]
set_option maxHeartbeats 40000000 in
set_option maxRecDepth 100000 in
theorem Right_any (l : List Ent) (v : Value) (w : World) (hv : Ents w v l) (hI : ∀ e ∈ l, e.I) (hL : l.length ≤ 9223372036854775807) :
    Calls Try.prog 11 #[v] w (Tells (RightE l) w) := by
  obtain ⟨A, c, rfl⟩ := hv.form
  obtain ⟨n, hn⟩ : ∃ n, n = l.length := ⟨_, rfl⟩
  rw [← hn] at hv hL ⊢
  have HN := Lib.hid hn
  have HV := Lib.hid hv
  have HI := Lib.hid hI
  clear hn hv hI
  go_enter Try.func11, Try.ntmps11
  go_upto_region 1 with fail
  go_cut [19] (fun s wx => ∃ d : Bool, s = .bool d ∧ (d = false ↔ (1 ≤ n ∧ n ≤ 4000 ∧ ∀ h : 0 < l.length, l[0].depth = 0)) ∧ wx = w)
  case first =>
    by_cases e1 : n < 1
    case pos =>
      have t1 : decide ((n : Int) < 1) = true := by first | (simpa using e1) | (simp; omega)
      have HQ : Hid (true = false ↔ (1 ≤ n ∧ n ≤ 4000 ∧ ∀ h : 0 < l.length, l[0].depth = 0)) := Lib.hid ⟨fun h => (by cases h), fun h => (by omega)⟩
      go_wp2_with fail
      go_meet
      exact ⟨true, rfl, by simpa using HQ.out, rfl⟩
    have t1 : decide ((n : Int) < 1) = false := by first | (simpa using e1) | (simp; omega)
    by_cases e2 : 4000 < n
    case pos =>
      have t2 : decide ((4000 : Int) < (n : Int)) = true := by first | (simpa using e2) | (simp; omega)
      have HQ : Hid (true = false ↔ (1 ≤ n ∧ n ≤ 4000 ∧ ∀ h : 0 < l.length, l[0].depth = 0)) := Lib.hid ⟨fun h => (by cases h), fun h => (by omega)⟩
      go_wp2_with fail
      go_meet
      exact ⟨true, rfl, by simpa using HQ.out, rfl⟩
    have t2 : decide ((4000 : Int) < (n : Int)) = false := by first | (simpa using e2) | (simp; omega)
    have h0 : 0 < l.length := by have := HN.out; omega
    have h0n : (0 : Int) < (n : Int) := by omega
    obtain ⟨bb, oo, y, rfl, hra, hen⟩ := HV.out.at_ h0
    obtain ⟨d0, hd0⟩ : ∃ d, d = l[0].depth := ⟨_, rfl⟩
    unfold entCells at hra
    dsimp only at hra
    rw [← hd0] at hra
    have k0 : w.cell? ⟨bb, oo, none⟩ = some (.int .i64 d0) := by simpa using hra 0 _ rfl
    by_cases e3 : d0 = 0
    · have t3 : decide (d0 = 0) = true := by simpa using e3
      have HQ : Hid (false = false ↔ (1 ≤ n ∧ n ≤ 4000 ∧ ∀ h : 0 < l.length, l[0].depth = 0)) := Lib.hid ⟨fun _ => ⟨by omega, by omega, fun _ => by rw [← hd0]; exact e3⟩, fun _ => rfl⟩
      clear hd0
      go_wp2_with fail
      go_meet
      exact ⟨false, rfl, by simpa using HQ.out, rfl⟩
    · have t3 : decide (d0 = 0) = false := by simpa using e3
      have HQ : Hid (true = false ↔ (1 ≤ n ∧ n ≤ 4000 ∧ ∀ h : 0 < l.length, l[0].depth = 0)) := Lib.hid ⟨fun h => (by cases h), fun h => absurd (h.2.2 h0) (by rw [← hd0]; exact e3)⟩
      clear hd0
      go_wp2_with fail
      go_meet
      exact ⟨true, by simp [e3], by simpa using HQ.out, rfl⟩
  obtain ⟨d, rfl, hd, hwe⟩ := hcut
  subst hwe
  obtain ⟨w1, rfl⟩ : ∃ W : World, W = wc := ⟨_, rfl⟩
  cases d with
  | true =>
    have HX : Hid (¬ RightE l) := Lib.hid (fun h => by
      have := hd.2 ⟨by have := h.1; have := HN.out; omega, by have := h.1; have := HN.out; omega, fun h0 => (h.2 0 h0).1⟩
      cases this)
    go_wp2_with fail
    go_ret
    exact Tells.no HX.out (Ext.refl _)
  | false =>
  obtain ⟨q1, q2, q3⟩ := hd.1 rfl
  have HQ3 := Lib.hid q3
  clear hd q3
  go_wp2_with fail
  go_loopw [22] (fun i wr => ∃ (j : Nat), j ≤ n ∧ i = .int .i64 (j : Int) ∧ Hid (PreE l j) ∧ Ext w1 wr) (fun i _ => n - (intOf i).toNat)
  case atStart => exact ⟨0, by omega, rfl, Lib.hid (fun i h h2 => absurd h2 (by omega)), Ext.refl _⟩
  case round =>
    obtain ⟨j, hj, rfl, HP, hX⟩ := hrel
    obtain ⟨wo, rfl⟩ : ∃ wo : World, wo = wr := ⟨_, rfl⟩
    by_cases hlt : j < n
    · have hij : (j : Int) < (n : Int) := by omega
      have hlt' : j < l.length := by rw [← HN.out]; exact hlt
      have hat := fun (i : Nat) (hi : i < l.length) => (HV.out.ext hX).at_ hi
      obtain ⟨bb, oo, y, hAe, hra, hat1⟩ := hat j hlt'
      subst hAe
      have HNO : Hid (¬ okEnt (l.take j) l[j] → ¬ RightE l) := Lib.hid (fun h h2 => h (h2.2 j hlt'))
      have HSU : Hid (okEnt (l.take j) l[j] → PreE l (j + 1)) := Lib.hid (fun h => HP.out.succ hlt' h)
      have HPR : Hid (0 < j → ∃ p z, (0 ≤ p.depth ∧ p.depth ≤ 32) ∧ (l.take j).getLast? = some p ∧ wo.rangeAt bb (oo + (j - 1) * 3) (entCells (p, z))) := Lib.hid (fun h0 => by
        obtain ⟨b3, o3, y3, he, hr3, _⟩ := hat (j - 1) (by omega)
        injection he with he
        injection he with e1 e2 _
        subst e1 e2
        refine ⟨l[j - 1], y3, HP.out.depth (by omega) (by omega), ?_, hr3⟩
        have := getLast_take (l := l) (j := j - 1) (by omega)
        rwa [show j - 1 + 1 = j by omega] at this)
      have HP0 : Hid (j = 0 → (l.take j).getLast? = none ∧ l[j].depth = 0) := Lib.hid (fun h => by subst h; exact ⟨rfl, HQ3.out hlt'⟩)
      have heI := HI.out _ (List.getElem_mem hlt')
      clear hat
      generalize l.take j = pre at *
      generalize l[j] = e at *
      obtain ⟨A2, c2, rfl, _⟩ := id hat1
      obtain ⟨n2, hn2⟩ : ∃ n, n = e.attrs.length := ⟨_, rfl⟩
      have hld := ent_load hra
      rw [← hn2] at hld hat1
      have HN2 := Lib.hid hn2
      clear hn2
      obtain ⟨hst, hG, hXG⟩ := box_new (P := Try.prog) wo 26 #[.int .i64 0, .int .i64 0, .slice none 0 0] #[.int .i64 e.depth, .int .i64 e.tag, .slice A2 n2 c2] en_size rfl (by simp [Value.oneCell'])
      go_upto_region 6 with first | refine wpList_load_run rfl 26 (.tmp 25) rfl _ _ rfl hld ?_ | refine wpList_store_run rfl 26 (.tmp 4) (.tmp 26) rfl _ _ _ rfl rfl hst ?_
      obtain ⟨g4, hg4⟩ : ∃ g, g = wo.heap.size := ⟨_, rfl⟩
      rw [← hg4] at hG hXG ⊢
      generalize (wo.alloc (.cells #[.int .i64 0, .int .i64 0, .slice none 0 0] 26)).setRow g4 #[.int .i64 e.depth, .int .i64 e.tag, .slice A2 n2 c2] = wg at *
      try dsimp only [Act.put]
      have hXg := hX.trans hXG
      have hatg := hat1.ext hXG
      have HPG : Hid (0 < j → ∃ p z, (0 ≤ p.depth ∧ p.depth ≤ 32) ∧ pre.getLast? = some p ∧ wg.rangeAt bb (oo + (j - 1) * 3) (entCells (p, z))) := Lib.hid (fun h0 => by
        obtain ⟨p, z, h1, h2, h3⟩ := HPR.out h0
        exact ⟨p, z, h1, h2, fun i u hu => hXG.cell (h3 i u hu)⟩)
      obtain ⟨r0, r1, r2⟩ := blk3 hG
      clear hst hld hra hXG hX hg4 hat1 HPR
      go_cut [50] (fun s wx => ∃ d : Bool, s = .bool d ∧ (d = false ↔ okDepth pre e) ∧ Ext wg wx)
      case first =>
        by_cases h0 : 0 < j
        case neg =>
          have d0 : decide (0 < j) = false := by simp; omega
          have HQ : Hid (false = false ↔ okDepth pre e) := Lib.hid ⟨fun _ => by
            obtain ⟨k1, k2⟩ := HP0.out (by omega)
            unfold okDepth
            rw [k1]
            exact k2, fun _ => rfl⟩
          go_quiet (fail)
          go_wp2_with fail
          go_meet
          exact ⟨false, rfl, by simpa using HQ.out, (Ext.refl _).drewN _⟩
        obtain ⟨p, z, hp1, hp2, hp3⟩ := HPG.out h0
        have d0 : decide (0 < j) = true := by simp; omega
        have d0' : decide ((0 : Int) < (j : Int)) = true := by simp; omega
        have HOK : Hid (okDepth pre e ↔ 1 ≤ e.depth ∧ e.depth ≤ 32 ∧ e.depth ≤ p.depth + 1) := Lib.hid (by unfold okDepth; rw [hp2])
        obtain ⟨j1, hj1⟩ : ∃ j1, j = j1 + 1 := ⟨j - 1, by omega⟩
        have wk : IntKind.i64.wrap ((j : Int) - 1) = (j1 : Int) := by rw [IntKind.wrap_i64]; omega
        have wk2 : IntKind.i64.wrap (p.depth + 1) = p.depth + 1 := by rw [IntKind.wrap_i64]; omega
        have hkl : (j1 : Int) < (n : Int) := by omega
        rw [show j - 1 = j1 by omega] at hp3
        have k0 : wg.cell? ⟨bb, oo + j1 * 3, none⟩ = some (.int .i64 p.depth) := by simpa using hp3 0 _ rfl
        clear hj1 h0 hp2 hp3
        by_cases e1 : e.depth < 1
        case pos =>
          have t1 : decide (e.depth < 1) = true := by simpa using e1
          have HQ : Hid (true = false ↔ okDepth pre e) := Lib.hid ⟨fun h => (by cases h), fun h => by have := HOK.out.1 h; omega⟩
          go_quiet (fail)
          go_wp2_with fail
          go_meet
          exact ⟨true, rfl, by simpa using HQ.out, (Ext.refl _).drewN _⟩
        have t1 : decide (e.depth < 1) = false := by simpa using e1
        by_cases e2 : 32 < e.depth
        case pos =>
          have t2 : decide (32 < e.depth) = true := by simpa using e2
          have HQ : Hid (true = false ↔ okDepth pre e) := Lib.hid ⟨fun h => (by cases h), fun h => by have := HOK.out.1 h; omega⟩
          go_quiet (fail)
          go_wp2_with fail
          go_meet
          exact ⟨true, rfl, by simpa using HQ.out, (Ext.refl _).drewN _⟩
        have t2 : decide (32 < e.depth) = false := by simpa using e2
        by_cases e3 : p.depth + 1 < e.depth
        case pos =>
          have t3 : decide (p.depth + 1 < e.depth) = true := by simpa using e3
          have HQ : Hid (true = false ↔ okDepth pre e) := Lib.hid ⟨fun h => (by cases h), fun h => by have := HOK.out.1 h; omega⟩
          go_quiet (fail)
          go_wp2_with fail
          go_meet
          exact ⟨true, rfl, by simpa using HQ.out, (Ext.refl _).drewN _⟩
        have t3 : decide (p.depth + 1 < e.depth) = false := by simpa using e3
        have HQ : Hid (false = false ↔ okDepth pre e) := Lib.hid ⟨fun h => HOK.out.2 (by omega), fun h => rfl⟩
        go_quiet (fail)
        go_wp2_with fail
        go_meet
        exact ⟨false, rfl, by simpa using HQ.out, (Ext.refl _).drewN _⟩
      obtain ⟨d, rfl, hd, hx5⟩ := hcut
      obtain ⟨w5, rfl⟩ : ∃ W : World, W = wc := ⟨_, rfl⟩
      have hX5 := hXg.trans hx5
      have hG5 := hx5.heap hG
      have hat5 := hatg.ext hx5
      clear hx5 hXg hG hatg HPG r0 r1 r2
      obtain ⟨r0, r1, r2⟩ := blk3 hG5
      cases d with
      | true =>
        have HX : Hid (¬ RightE l) := Lib.hid (HNO.out (fun ho => by have := hd.2 ho.1; cases this))
        clear hd
        go_wp2_with fail
        go_ret
        exact Tells.no HX.out hX5
      | false =>
      have HDP := Lib.hid (hd.1 rfl)
      clear hd
      go_upto_region 8 with fail
      go_cut [64] (fun s wx => ∃ d : Bool, s = .bool d ∧ (d = false ↔ ((1 ≤ e.tag ∧ e.tag ≤ 63) ∧ okAtts e.attrs)) ∧ Ext w5 wx)
      case first =>
        by_cases e1 : e.tag < 1
        case pos =>
          have t1 : decide (e.tag < 1) = true := by simpa using e1
          have HQ : Hid (true = false ↔ ((1 ≤ e.tag ∧ e.tag ≤ 63) ∧ okAtts e.attrs)) := Lib.hid ⟨fun h => (by cases h), fun h => by omega⟩
          go_wp2_with fail
          go_meet
          exact ⟨true, rfl, by simpa using HQ.out, Ext.refl _⟩
        have t1 : decide (e.tag < 1) = false := by simpa using e1
        by_cases e2 : 63 < e.tag
        case pos =>
          have t2 : decide (63 < e.tag) = true := by simpa using e2
          have HQ : Hid (true = false ↔ ((1 ≤ e.tag ∧ e.tag ≤ 63) ∧ okAtts e.attrs)) := Lib.hid ⟨fun h => (by cases h), fun h => by omega⟩
          go_wp2_with fail
          go_meet
          exact ⟨true, rfl, by simpa using HQ.out, Ext.refl _⟩
        have t2 : decide (63 < e.tag) = false := by simpa using e2
        go_wp2_with fail
        refine (rightAttrs_any e.attrs _ w5 hat5 heI.attrs (by have := HN2.out; exact heI.len)).mono ?_
        rintro en w9 ⟨r, rfl, hr, hx9⟩
        have HQ : Hid ((!r) = false ↔ ((1 ≤ e.tag ∧ e.tag ≤ 63) ∧ okAtts e.attrs)) := Lib.hid (by
          rw [← hr]
          constructor
          · intro h; exact ⟨by omega, by simpa using h⟩
          · intro h; simpa using h.2)
        clear hr
        go_wp2_with fail
        go_meet
        exact ⟨!r, rfl, HQ.out, hx9⟩
      obtain ⟨d, rfl, hd, hx6⟩ := hcut
      obtain ⟨w6, rfl⟩ : ∃ W : World, W = wc := ⟨_, rfl⟩
      have hX6 := hX5.trans hx6
      clear hx6 hX5 hG5 hat5 r0 r1 r2
      cases d with
      | true =>
        have HX : Hid (¬ RightE l) := Lib.hid (HNO.out (fun ho => by have := hd.2 ho.2; cases this))
        clear hd
        go_wp2_with fail
        go_ret
        exact Tells.no HX.out hX6
      | false =>
      have HNX := Lib.hid (HSU.out ⟨HDP.out, hd.1 rfl⟩)
      clear hd
      have hwj : IntKind.i64.wrap ((j : Int) + 1) = ((j + 1 : Nat) : Int) := by rw [IntKind.wrap_i64]; omega
      go_wp2_with fail
      go_roundw
      case rel => exact ⟨j + 1, by omega, by first | (with_reducible rfl) | go_num, HNX, hX6⟩
      case measure => simp [intOf]; omega
    · have hij : ¬ (j : Int) < (n : Int) := by omega
      have HT : Hid (RightE l) := Lib.hid ⟨by have := HN.out; omega, fun i hi => HP.out i hi (by have := HN.out; omega)⟩
      go_wp2_with fail
      go_ret
      exact Tells.yes HT.out hX
end Go.Proofs.Ytopanbcodfkedaa
