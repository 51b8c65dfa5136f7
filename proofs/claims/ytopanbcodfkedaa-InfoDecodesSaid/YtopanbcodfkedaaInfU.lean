/- The walk of debuggerref21.Right. -/
import Derived.Test.YtopanbcodfkedaaInfT
namespace Go.Proofs.Ytopanbcodfkedaa
open Go.RowKit
set_option linter.unusedVariables false
set_option linter.unusedSimpArgs false

/-! a still walk that no unfolding runs through -/
structure WStill (P : Program) (ops : Array Oper) (w : World) (Q : Act → Prop) (l : List Oper) (a : Act) : Prop where
  out : wpStill P ops w Q l a
theorem wstill_step {P : Program} {ops : Array Oper} {w : World} {Q : Act → Prop} {o : Oper} {rest : List Oper} {a : Act}
    (h : ∀ K : Act → Prop, (∀ a, WStill P ops w Q rest a → K a) → if Region.wanted o (yielded ops a.tmps) then o.still P a w K else K (a.put o.dst undef)) : WStill P ops w Q (o :: rest) a :=
  ⟨wpStill_step fun K hK => h K (fun a ha => hK a ha.out)⟩
theorem wstill_nil {P : Program} {ops : Array Oper} {w : World} {Q : Act → Prop} {a : Act} (h : Q a) : WStill P ops w Q [] a := ⟨wpStill_nil h⟩
set_option maxHeartbeats 40000000 in
set_option maxRecDepth 100000 in
theorem refRight_any (l : List Ent) (v : Value) (w : World) (hv : Ents w v l) (hI : ∀ e ∈ l, e.I) (hL : l.length ≤ 9223372036854775807) :
    Calls Try.prog 12 #[v] w (Tells (RightE l) w) := by
  obtain ⟨A, c, rfl⟩ := hv.form
  obtain ⟨n, hn⟩ : ∃ n, n = l.length := ⟨_, rfl⟩
  rw [← hn] at hv hL ⊢
  have HN := Lib.hid hn
  have HV := Lib.hid hv
  have HI := Lib.hid hI
  clear hn hv hI
  go_enter Try.func12, Try.ntmps12
  by_cases e1 : n < 1
  case pos =>
    have t1 : decide ((n : Int) < 1) = true := by simp; omega
    have HX : Hid (¬ RightE l) := Lib.hid (fun h => by have := h.1; have := HN.out; omega)
    clear e1
    go_wp2_with fail
    go_ret
    exact Tells.no HX.out (Ext.refl _)
  have t1 : decide ((n : Int) < 1) = false := by simp; omega
  by_cases e2 : 4000 < n
  case pos =>
    have t2 : decide ((4000 : Int) < (n : Int)) = true := by simp; omega
    have HX : Hid (¬ RightE l) := Lib.hid (fun h => by have := h.1; have := HN.out; omega)
    clear e1 e2
    go_wp2_with fail
    go_ret
    exact Tells.no HX.out (Ext.refl _)
  have t2 : decide ((4000 : Int) < (n : Int)) = false := by simp; omega
  go_upto_region 3 with fail
  clear t1 t2
  go_wp2_with fail
  go_loopw [15] (fun i wr => ∃ (j : Nat), j ≤ n ∧ i = .int .i64 (j : Int) ∧ Hid (PreE l j) ∧ Ext w wr) (fun i _ => n - (intOf i).toNat)
  case atStart => exact ⟨0, by omega, rfl, Lib.hid (fun i h h2 => absurd h2 (by omega)), Ext.refl _⟩
  case round =>
    obtain ⟨j, hj, rfl, HP, hX⟩ := hrel
    obtain ⟨wo, rfl⟩ : ∃ wo : World, wo = wr := ⟨_, rfl⟩
    by_cases hlt : j < n
    · have hij : (j : Int) < (n : Int) := by omega
      have hlt' : j < l.length := by rw [← HN.out]; exact hlt
      have hat := fun (i : Nat) (hi : i < l.length) => (HV.out.ext hX).at_ hi
      obtain ⟨bb, oo, y, hAe, hra, hat1⟩ := hat j hlt'
      subst hAe
      have HNO : Hid (¬ okEnt (l.take j) l[j] → ¬ RightE l) := Lib.hid (fun h h2 => h (h2.2 j hlt'))
      have HSU : Hid (okEnt (l.take j) l[j] → PreE l (j + 1)) := Lib.hid (fun h => HP.out.succ hlt' h)
      have HPR : Hid (0 < j → ∃ p z, (0 ≤ p.depth ∧ p.depth ≤ 32) ∧ (l.take j).getLast? = some p ∧ wo.rangeAt bb (oo + (j - 1) * 3) (entCells (p, z))) := Lib.hid (fun h0 => by
        obtain ⟨b3, o3, y3, he, hr3, _⟩ := hat (j - 1) (by omega)
        injection he with he
        injection he with e1 e2 _
        subst e1 e2
        refine ⟨l[j - 1], y3, HP.out.depth (by omega) (by omega), ?_, hr3⟩
        have := getLast_take (l := l) (j := j - 1) (by omega)
        rwa [show j - 1 + 1 = j by omega] at this)
      have HP0 : Hid (j = 0 → (l.take j).getLast? = none) := Lib.hid (fun h => by subst h; rfl)
      have heI := HI.out _ (List.getElem_mem hlt')
      clear hat
      generalize l.take j = pre at *
      generalize l[j] = e at *
      obtain ⟨A2, c2, rfl, _⟩ := id hat1
      obtain ⟨n2, hn2⟩ : ∃ n, n = e.attrs.length := ⟨_, rfl⟩
      have hld := ent_load hra
      rw [← hn2] at hld hat1
      have HN2 := Lib.hid hn2
      clear hn2
      obtain ⟨hst, hG, hXG⟩ := box_new (P := Try.prog) wo 26 #[.int .i64 0, .int .i64 0, .slice none 0 0] #[.int .i64 e.depth, .int .i64 e.tag, .slice A2 n2 c2] en_size rfl (by simp [Value.oneCell'])
      go_upto_region 6 with first | refine wpList_load_run rfl 26 (.tmp 18) rfl _ _ rfl hld ?_ | refine wpList_store_run rfl 26 (.tmp 4) (.tmp 19) rfl _ _ _ rfl rfl hst ?_
      obtain ⟨g4, hg4⟩ : ∃ g, g = wo.heap.size := ⟨_, rfl⟩
      rw [← hg4] at hG hXG ⊢
      generalize (wo.alloc (.cells #[.int .i64 0, .int .i64 0, .slice none 0 0] 26)).setRow g4 #[.int .i64 e.depth, .int .i64 e.tag, .slice A2 n2 c2] = wg at *
      try dsimp only [Act.put]
      have hXg := hX.trans hXG
      have hatg := hat1.ext hXG
      have HPG : Hid (0 < j → ∃ p z, (0 ≤ p.depth ∧ p.depth ≤ 32) ∧ pre.getLast? = some p ∧ wg.rangeAt bb (oo + (j - 1) * 3) (entCells (p, z))) := Lib.hid (fun h0 => by
        obtain ⟨p, z, h1, h2, h3⟩ := HPR.out h0
        exact ⟨p, z, h1, h2, fun i u hu => hXG.cell (h3 i u hu)⟩)
      obtain ⟨r0, r1, r2⟩ := blk3 hG
      clear hst hld hra hXG hX hg4 hat1 HPR
      go_cut [68] (fun s wx => ∃ d : Bool, s = .bool d ∧ (d = false ↔ okEnt pre e) ∧ Ext wg wx)
      case first =>
        by_cases h0 : j = 0
        case pos =>
          have d0 : ((j : Int) == 0) = true := by simp; omega
          have d1 : decide ((j : Int) = 0) = true := by simp; omega
          have d2 : decide (0 < j) = false := by simp; omega
          have hnone := HP0.out h0
          by_cases e0 : e.depth = 0
          case neg =>
            have t3 : (e.depth != 0) = true := by simp [e0]
            have t4 : decide (e.depth = 0) = false := by simp [e0]
            have HQ : Hid (¬ okEnt pre e) := Lib.hid (fun h => by
              have := h.1
              rw [hnone] at this
              exact e0 this)
            clear e0 hnone h0
            go_quiet (fail)
            go_wp2_with fail
            go_meet
            exact ⟨true, rfl, ⟨fun h => (by cases h), fun h => absurd h HQ.out⟩, (Ext.refl _).drewN _⟩
          have t3 : (e.depth != 0) = false := by simp [e0]
          have t4 : decide (e.depth = 0) = true := by simp [e0]
          have HDP : Hid (okDepth pre e) := Lib.hid (by unfold okDepth; rw [hnone]; exact e0)
          clear e0 hnone h0
          by_cases e1 : e.tag < 1
          case pos =>
            have t1 : decide (e.tag < 1) = true := by simpa using e1
            have HQ : Hid (¬ okEnt pre e) := Lib.hid (fun h => by have := h.2.1; omega)
            clear e1
            go_quiet (fail)
            go_wp2_with fail
            go_meet
            exact ⟨true, rfl, ⟨fun h => (by cases h), fun h => absurd h HQ.out⟩, (Ext.refl _).drewN _⟩
          have t1 : decide (e.tag < 1) = false := by simpa using e1
          by_cases e2 : 63 < e.tag
          case pos =>
            have t2 : decide (63 < e.tag) = true := by simpa using e2
            have HQ : Hid (¬ okEnt pre e) := Lib.hid (fun h => by have := h.2.1; omega)
            clear e1 e2
            go_quiet (fail)
            go_wp2_with fail
            go_meet
            exact ⟨true, rfl, ⟨fun h => (by cases h), fun h => absurd h HQ.out⟩, (Ext.refl _).drewN _⟩
          have t2 : decide (63 < e.tag) = false := by simpa using e2
          have HTG : Hid (1 ≤ e.tag ∧ e.tag ≤ 63) := Lib.hid (by omega)
          clear e1 e2
          refine wp_region_still_tail 44 (by kernel_rfl) (by kernel_rfl) ?_
          simp only [List.append_eq, List.cons_append, List.nil_append, List.take_succ_cons, List.take_zero, List.drop_succ_cons, List.drop_zero]
          refine WStill.out ?_
          iterate 44
            refine wstill_step (fun K hK => ?_)
            go_simp
            refine hK _ ?_
            clear hK K
          refine wstill_nil ?_
          change wpList _ _ _ _ _ wg.drew
          have hXd := (Ext.refl wg).drew
          have hatd := hatg.ext hXd
          have hGd := hXd.heap hG
          clear r0 r1 r2
          obtain ⟨r0, r1, r2⟩ := blk3 hGd
          clear hGd
          obtain ⟨wd, hwd⟩ : ∃ W, W = wg.drew := ⟨_, rfl⟩
          rw [← hwd] at hXd hatd r0 r1 r2 ⊢
          clear hwd
          go_wp2_with fail
          refine (refAttrs_any e.attrs _ wd hatd heI.attrs (by have := HN2.out; exact heI.len)).mono ?_
          rintro en w9 ⟨r, rfl, hr, hx9⟩
          have HQ : Hid ((!r) = false ↔ okEnt pre e) := Lib.hid (by
            rw [okEnt_iff, ← hr]
            constructor
            · intro h; exact ⟨HDP.out, HTG.out, by simpa using h⟩
            · intro h; simpa using h.2.2)
          have hXX := hXd.trans hx9
          clear hr hx9 hXd
          go_wp2_with fail
          go_meet
          exact ⟨!r, rfl, HQ.out, hXX⟩
        obtain ⟨p, z, hp1, hp2, hp3⟩ := HPG.out (by omega)
        have d0 : ((j : Int) == 0) = false := by simp; omega
        have d1 : decide ((j : Int) = 0) = false := by simp; omega
        have d2 : decide (0 < j) = true := by simp; omega
        have HOK : Hid (okDepth pre e ↔ 1 ≤ e.depth ∧ e.depth ≤ 32 ∧ e.depth ≤ p.depth + 1) := Lib.hid (by unfold okDepth; rw [hp2])
        obtain ⟨j1, hj1⟩ : ∃ j1, j = j1 + 1 := ⟨j - 1, by omega⟩
        have wk : IntKind.i64.wrap ((j : Int) - 1) = (j1 : Int) := by rw [IntKind.wrap_i64]; omega
        have wk2 : IntKind.i64.wrap (p.depth + 1) = p.depth + 1 := by rw [IntKind.wrap_i64]; omega
        have hkl : (j1 : Int) < (n : Int) := by omega
        rw [show j - 1 = j1 by omega] at hp3
        have k0 : wg.cell? ⟨bb, oo + j1 * 3, none⟩ = some (.int .i64 p.depth) := by simpa using hp3 0 _ rfl
        clear hj1 h0 hp2 hp3
        by_cases e1 : e.depth < 1
        case pos =>
          have t3 : decide (e.depth < 1) = true := by simpa using e1
          have HQ : Hid (¬ okEnt pre e) := Lib.hid (fun h => by have := HOK.out.1 ((okEnt_iff _ _).1 h).1; omega)
          clear e1
          go_quiet (fail)
          go_wp2_with fail
          go_meet
          exact ⟨true, rfl, ⟨fun h => (by cases h), fun h => absurd h HQ.out⟩, (Ext.refl _).drewN _⟩
        have t3 : decide (e.depth < 1) = false := by simpa using e1
        by_cases e2 : 32 < e.depth
        case pos =>
          have t4 : decide (32 < e.depth) = true := by simpa using e2
          have HQ : Hid (¬ okEnt pre e) := Lib.hid (fun h => by have := HOK.out.1 ((okEnt_iff _ _).1 h).1; omega)
          clear e1 e2
          go_quiet (fail)
          go_wp2_with fail
          go_meet
          exact ⟨true, rfl, ⟨fun h => (by cases h), fun h => absurd h HQ.out⟩, (Ext.refl _).drewN _⟩
        have t4 : decide (32 < e.depth) = false := by simpa using e2
        by_cases e3 : p.depth + 1 < e.depth
        case pos =>
          have t5 : decide (p.depth + 1 < e.depth) = true := by simpa using e3
          have HQ : Hid (¬ okEnt pre e) := Lib.hid (fun h => by have := HOK.out.1 ((okEnt_iff _ _).1 h).1; omega)
          clear e1 e2 e3
          go_quiet (fail)
          go_wp2_with fail
          go_meet
          exact ⟨true, rfl, ⟨fun h => (by cases h), fun h => absurd h HQ.out⟩, (Ext.refl _).drewN _⟩
        have t5 : decide (p.depth + 1 < e.depth) = false := by simpa using e3
        have HDP : Hid (okDepth pre e) := Lib.hid (HOK.out.2 (by omega))
        clear e1 e2 e3
        by_cases e1 : e.tag < 1
        case pos =>
          have t1 : decide (e.tag < 1) = true := by simpa using e1
          have HQ : Hid (¬ okEnt pre e) := Lib.hid (fun h => by have := h.2.1; omega)
          clear e1
          go_quiet (fail)
          go_wp2_with fail
          go_meet
          exact ⟨true, rfl, ⟨fun h => (by cases h), fun h => absurd h HQ.out⟩, (Ext.refl _).drewN _⟩
        have t1 : decide (e.tag < 1) = false := by simpa using e1
        by_cases e2 : 63 < e.tag
        case pos =>
          have t2 : decide (63 < e.tag) = true := by simpa using e2
          have HQ : Hid (¬ okEnt pre e) := Lib.hid (fun h => by have := h.2.1; omega)
          clear e1 e2
          go_quiet (fail)
          go_wp2_with fail
          go_meet
          exact ⟨true, rfl, ⟨fun h => (by cases h), fun h => absurd h HQ.out⟩, (Ext.refl _).drewN _⟩
        have t2 : decide (63 < e.tag) = false := by simpa using e2
        have HTG : Hid (1 ≤ e.tag ∧ e.tag ≤ 63) := Lib.hid (by omega)
        clear e1 e2
        refine wp_region_still_tail 44 (by kernel_rfl) (by kernel_rfl) ?_
        simp only [List.append_eq, List.cons_append, List.nil_append, List.take_succ_cons, List.take_zero, List.drop_succ_cons, List.drop_zero]
        refine WStill.out ?_
        iterate 44
          refine wstill_step (fun K hK => ?_)
          go_simp
          refine hK _ ?_
          clear hK K
        refine wstill_nil ?_
        change wpList _ _ _ _ _ wg.drew
        have hXd := (Ext.refl wg).drew
        have hatd := hatg.ext hXd
        have hGd := hXd.heap hG
        clear r0 r1 r2
        obtain ⟨r0, r1, r2⟩ := blk3 hGd
        clear hGd
        obtain ⟨wd, hwd⟩ : ∃ W, W = wg.drew := ⟨_, rfl⟩
        rw [← hwd] at hXd hatd r0 r1 r2 ⊢
        clear hwd
        go_wp2_with fail
        refine (refAttrs_any e.attrs _ wd hatd heI.attrs (by have := HN2.out; exact heI.len)).mono ?_
        rintro en w9 ⟨r, rfl, hr, hx9⟩
        have HQ : Hid ((!r) = false ↔ okEnt pre e) := Lib.hid (by
          rw [okEnt_iff, ← hr]
          constructor
          · intro h; exact ⟨HDP.out, HTG.out, by simpa using h⟩
          · intro h; simpa using h.2.2)
        have hXX := hXd.trans hx9
        clear hr hx9 hXd
        go_wp2_with fail
        go_meet
        exact ⟨!r, rfl, HQ.out, hXX⟩
      obtain ⟨d, rfl, hd, hx6⟩ := hcut
      obtain ⟨w6, rfl⟩ : ∃ W : World, W = wc := ⟨_, rfl⟩
      have hX6 := hXg.trans hx6
      clear hx6 hG hXg hatg r0 r1 r2
      cases d with
      | true =>
        have HX : Hid (¬ RightE l) := Lib.hid (HNO.out (fun ho => by have := hd.2 ho; cases this))
        clear hd
        go_wp2_with fail
        go_ret
        exact Tells.no HX.out hX6
      | false =>
      have HNX := Lib.hid (HSU.out (hd.1 rfl))
      clear hd
      have hwj : IntKind.i64.wrap ((j : Int) + 1) = ((j + 1 : Nat) : Int) := by rw [IntKind.wrap_i64]; omega
      go_wp2_with fail
      go_roundw
      case rel => exact ⟨j + 1, by omega, by first | (with_reducible rfl) | go_num, HNX, hX6⟩
      case measure => simp [intOf]; omega
    · have hij : ¬ (j : Int) < (n : Int) := by omega
      have HT : Hid (RightE l) := Lib.hid ⟨by have := HN.out; omega, fun i hi => HP.out i hi (by have := HN.out; omega)⟩
      go_wp2_with fail
      go_ret
      exact Tells.yes HT.out hX
end Go.Proofs.Ytopanbcodfkedaa
