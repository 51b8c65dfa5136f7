/- Arrive of the link. -/
import Derived.Test.YtnobepobalpccaaProtD
namespace Go.Proofs.Ytnobepobalpccaa
open Go.RowKit
set_option linter.unusedVariables false

theorem Rd.subK {w : World} {A : Option Addr} {xs : List Value} (h : Rd w A xs) (c lo s : Nat) (hc : c = lo → xs.drop (lo * s) = []) : Rd w (if c = lo then A else A.map (·.add (lo * s))) (xs.drop (lo * s)) := by
  by_cases e : c = lo
  · rw [if_pos e, hc e]; exact Rd.nil
  · rw [if_neg e]
    intro j u hu
    rw [List.getElem?_drop] at hu
    obtain ⟨ad, rfl, hc⟩ := h _ u hu
    exact ⟨_, rfl, by rw [add_add]; exact hc⟩
theorem flat_take {α : Type} {f : α → List Value} {k : Nat} : ∀ (l : List α) (n : Nat), (∀ a ∈ l, (f a).length = k) → (l.take n).flatMap f = (l.flatMap f).take (n * k)
  | [], n, _ => by simp
  | a :: l, 0, _ => by simp
  | a :: l, n + 1, h => by
    have ha := h a (by simp)
    rw [List.take_succ_cons, List.flatMap_cons, List.flatMap_cons, flat_take l n (fun x hx => h x (by simp [hx])), List.take_append, ha, List.take_of_length_le (l := f a) (by rw [ha, Nat.succ_mul]; omega), show (n + 1) * k - k = n * k by rw [Nat.succ_mul]; omega]
theorem flat_drop {α : Type} {f : α → List Value} {k : Nat} : ∀ (l : List α) (n : Nat), (∀ a ∈ l, (f a).length = k) → (l.drop n).flatMap f = (l.flatMap f).drop (n * k)
  | [], n, _ => by simp
  | a :: l, 0, _ => by simp
  | a :: l, n + 1, h => by
    have ha := h a (by simp)
    rw [List.drop_succ_cons, List.flatMap_cons, flat_drop l n (fun x hx => h x (by simp [hx])), List.drop_append, ha, List.drop_of_length_le (l := f a) (by rw [ha, Nat.succ_mul]; omega), show (n + 1) * k - k = n * k by rw [Nat.succ_mul]; omega]
    simp
theorem InR_pre {α : Type} {f : α → List Value} {P : Program} {t e : TypeId} {k bytes : Nat} (he : ElemN P t e k bytes) (A : Option Addr) (n c hi : Nat) (h1 : hi ≤ n) (hc : n ≤ c) :
    ∃ A', (∀ W, (Instr.slice t (.slice A n c) none (some (.int .i64 (hi : Int))) none).run P W = .ok (.slice A' hi c) W) ∧ ∀ W (l : List α), l.length = n → (∀ a ∈ l, (f a).length = k) → InR f W (.slice A n c) l → InR f W (.slice A' hi c) (l.take hi) := by
  obtain ⟨i0, z, hi0, hz0, hz1, hz2, hzc⟩ := he.info
  refine ⟨if c = 0 then A else A.map (·.add (0 * i0.size)), fun W => run_slice_h he.slice hi0 A _ c hi (by omega) W, fun W l hl hk hx => ?_⟩
  obtain ⟨A1, c1, e1, _, hr⟩ := hx
  injection e1 with ea eb ec
  subst ea
  subst ec
  refine ⟨_, c, by rw [List.length_take, hl, Nat.min_eq_left h1], by simp; omega, ?_⟩
  rw [hz1, flat_take l hi hk]
  have h := hr.subK c 0 k (fun e => by
    have : l = [] := List.eq_nil_of_length_eq_zero (by omega)
    subst this; simp)
  rw [Nat.zero_mul, List.drop_zero] at h
  rw [Nat.zero_mul]
  exact h.take _
theorem InR_suf {α : Type} {f : α → List Value} {P : Program} {t e : TypeId} {k bytes : Nat} (he : ElemN P t e k bytes) (A : Option Addr) (n c lo : Nat) (h1 : lo ≤ n) (hc : n ≤ c) :
    ∃ A' c', (∀ W, (Instr.slice t (.slice A n c) (some (.int .i64 (lo : Int))) none none).run P W = .ok (.slice A' (n - lo) c') W) ∧ ∀ W (l : List α), l.length = n → (∀ a ∈ l, (f a).length = k) → InR f W (.slice A n c) l → InR f W (.slice A' (n - lo) c') (l.drop lo) := by
  obtain ⟨i0, z, hi0, hz0, hz1, hz2, hzc⟩ := he.info
  refine ⟨if c = lo then A else A.map (·.add (lo * i0.size)), c - lo, fun W => run_slice_l he.slice hi0 A _ c lo h1 hc W, fun W l hl hk hx => ?_⟩
  obtain ⟨A1, c1, e1, _, hr⟩ := hx
  injection e1 with ea eb ec
  subst ea
  subst ec
  refine ⟨_, c - lo, by rw [List.length_drop, hl], by simp; omega, ?_⟩
  rw [hz1, flat_drop l lo hk]
  exact hr.subK c lo k (fun e => List.drop_of_length_le (by rw [flat_len l hk]; subst e; exact Nat.mul_le_mul_right _ (by omega)))
def ArrPost (zs : List FZ) (now : Int) (w : World) (en : Ending) (w' : World) : Prop := ∃ yo yr outs rest, en = .returned (.tuple #[yo, yr]) ∧ QOwn w.heap.size w' yo outs ∧ OwnR flCells 2 64 w.heap.size w' yr rest ∧
  rest = zs.filter (fun z => decide (now < z.1)) ∧ outs.Perm ((zs.filter (fun z => !decide (now < z.1))).map (·.2.b)) ∧ Ext w w'
set_option maxHeartbeats 1000000 in
set_option maxRecDepth 100000 in
theorem Arrive_any (x : Value) (zs : List FZ) (now : Int) (w : World) (hx : InR flCells w x zs) (hl : zs.length ≤ 100000000) (hb : ∀ z ∈ zs, InB w (bodyV z.2) z.2.b) (hbl : ∀ z ∈ zs, z.2.b.length ≤ 1000000) :
    Calls Try.prog 18 #[x, .int .i64 now] w (ArrPost zs now w) := by
  obtain ⟨A, c, rfl, _, _⟩ := id hx
  have HX := Lib.hid hx
  have HB := Lib.hid hb
  clear hx hb
  go_enter Try.func18, Try.ntmps18
  go_wp2_with fail
  go_loopw [6, 7, 8] (fun dv rv i wr => ∃ (j : Nat) (dl rl : List FZ), j ≤ zs.length ∧ i = .int .i64 (j : Int) ∧ OwnR flCells 2 64 w.heap.size wr dv dl ∧ OwnR flCells 2 64 w.heap.size wr rv rl ∧ (∀ k, dv.ownBlock = some k → rv.ownBlock ≠ some k) ∧
    Hid (rl = (zs.take j).filter (fun z => decide (now < z.1))) ∧ Hid (dl.Perm ((zs.take j).filter (fun z => !decide (now < z.1)))) ∧ dl.length + rl.length = j ∧ Ext w wr) (fun _ _ i _ => zs.length - (intOf i).toNat)
  case atStart => exact ⟨0, [], [], by omega, rfl, OwnR.nil _, OwnR.nil _, (fun k h => by cases h), Lib.hid rfl, Lib.hid (List.Perm.refl _), rfl, Ext.refl _⟩
  case round =>
    obtain ⟨j, dl, rl, hj, rfl, hod, hor, hne, HRL, HDL, hjl, hE⟩ := hrel
    obtain ⟨wo, rfl⟩ : ∃ wo : World, wo = wr := ⟨_, rfl⟩
    obtain ⟨DV, dc, hv, hdcap, _⟩ := hod.inR
    subst hv
    obtain ⟨RV, rc, hv, hrcap, _⟩ := hor.inR
    subst hv
    by_cases hlt : j < zs.length
    · have hij : (j : Int) < (zs.length : Int) := by omega
      obtain ⟨b, off, rfl, hrg⟩ := InR.at_ (k := 2) (HX.out.ext hE) (fun _ _ => rfl) (by omega) hlt
      have HT1 := Lib.hid (List.take_succ_eq_append_getElem hlt)
      generalize zs[j] = zj at *
      obtain ⟨due, Y, yn, yc, yb⟩ := zj
      have c0 : wo.cell? ⟨b, off + j * 2, none⟩ = some (.int .i64 due) := by have := hrg 0 _ rfl; simpa using this
      have hld := run_loadAt_mid (P := Try.prog) wo b (off + j * 2) 64 _ _ hrg Try.underlying64 rfl (by kernel_rfl)
      have hn7 := OwnR_one (f := flCells) wo (due, ⟨Y, yn, yc, yb⟩) rfl 64
      have hA7 := (Ext.refl wo).alloc (.cells (flCells (due, ⟨Y, yn, yc, yb⟩)).toArray 64)
      have hEA := hE.trans hA7
      by_cases hd : now < due
      · have hd' : decide (now < due) = true := by simpa using hd
        have hor7 := hor.ext hA7
        go_wp2_with first | refine wpList_load_run rfl 64 (.tmp 29) rfl _ _ rfl hld ?_ | refine wpList_rowOne elem_fl rfl (.tmp 30) rfl #[.int .i64 due, .slice Y yn yc] rfl rfl (by omega) ?_ | (at_builtin; go_must (refine wpList_appendR elem_fl rfl (.tmp 26) (.tmp 31) rfl w.heap.size _ rl rfl hor7 _ [((due, ⟨Y, yn, yc, yb⟩) : FZ)] rfl hn7.inR (fun _ _ => rfl) (fun z _ => fl_one z) (by simp; omega) (by omega) hEA.size ?_); intro v8 w8 ho8 hg8; refine Hold.out ?_)
        refine Hold.mk ?_
        go_wp2_with fail
        have hodk := (hod.ext hA7).kept hg8.grown (by
          cases h : (Value.slice DV dl.length dc).ownBlock with
          | none => exact .inl rfl
          | some k => exact .inr (fun e => hne k h e.symm))
        have hE8 := hg8.ext hEA (hor7.ge)
        go_roundw
        case rel =>
          refine ⟨j + 1, dl, rl ++ [(due, ⟨Y, yn, yc, yb⟩)], by omega, by go_num, hodk, ho8, fun k hk e8 => ?_, Lib.hid ?_, Lib.hid ?_, by simp; omega, hE8⟩
          · rcases hg8.lies with e | ⟨g, e, hg⟩
            · exact hne k hk (e ▸ e8)
            · rw [e8] at e
              injection e with e
              have := hod.lt k hk
              simp at hg
              omega
          · rw [HT1.out, List.filter_append, HRL.out]; simp [hd]
          · rw [HT1.out, List.filter_append]; simpa [hd] using HDL.out
        case measure => simp [intOf]; omega
      · have hd' : decide (now < due) = false := by simpa using hd
        go_wp2_with fail
        go_loopw [9] (fun i wr => ∃ k : Nat, k ≤ dl.length ∧ i = .int .i64 (k : Int) ∧ Ext wo wr) (fun i _ => (intOf i).toNat)
        case atStart => exact ⟨dl.length, by omega, rfl, Ext.refl _⟩
        case round =>
          obtain ⟨k, hk, rfl, hX⟩ := hrel
          obtain ⟨wz, rfl⟩ : ∃ wz : World, wz = wr := ⟨_, rfl⟩
          go_upto_region 8 with fail
          go_cut [9, 50] (fun i s wx => i = .int .i64 (k : Int) ∧ (∃ bd : Bool, s = .bool bd ∧ (bd = true → 0 < k)) ∧ Ext wo wx)
          case first =>
            rcases k with _ | m
            · have a1 : decide ((0 : Int) < 0) = false := by decide
              go_quiet (fail)
              go_wp2_with fail
              go_meet
              exact ⟨rfl, ⟨false, rfl, (fun h => by cases h)⟩, hX.drewN _⟩
            · have hml : m < dl.length := by omega
              obtain ⟨bd, od, rfl, hrg2⟩ := InR.at_ (k := 2) ((hod.ext hX).inR) (fun _ _ => rfl) (by omega) hml
              have c2 : wz.cell? ⟨bd, od + m * 2, none⟩ = some (.int .i64 dl[m].1) := by have := hrg2 0 _ rfl; simpa using this
              have c0z := hX.cell c0
              generalize dl[m].1 = dm at *
              have a1 : decide ((0 : Int) < ((m + 1 : Nat) : Int)) = true := by first | (simp; omega) | simp
              have a2 : decide ((0 : Int) < (m : Int) + 1) = true := by first | (simp; omega) | simp
              have hw6 : IntKind.i64.wrap ((m : Int) + 1 - 1) = (m : Int) := by rw [IntKind.wrap_i64]; omega
              have hw7 : IntKind.i64.wrap (m : Int) = (m : Int) := by rw [IntKind.wrap_i64]; omega
              have hmi : (m : Int) < (dl.length : Int) := by omega
              by_cases hdd : due < dm
              · have hdd' : decide (due < dm) = true := by simpa using hdd
                go_quiet (fail)
                go_wp2_with fail
                go_meet
                exact ⟨rfl, ⟨true, rfl, fun _ => by omega⟩, hX.drewN _⟩
              · have hdd' : decide (due < dm) = false := by simpa using hdd
                go_quiet (fail)
                go_wp2_with fail
                go_meet
                exact ⟨rfl, ⟨false, rfl, (fun h => by cases h)⟩, hX.drewN _⟩
          case rest =>
            obtain ⟨rfl, ⟨bd, rfl, hbd⟩, hX2⟩ := hcut
            cases bd with
            | true =>
              have hk0 := hbd rfl
              have hwr : IntKind.i64.wrap ((k : Int) - 1) = ((k - 1 : Nat) : Int) := by rw [IntKind.wrap_i64]; omega
              go_wp2_with fail
              go_roundw
              case rel => exact ⟨k - 1, by omega, rfl, hX2⟩
              case measure => simp [intOf]; omega
            | false =>
              clear hbd hX
              clear hn7 hA7 hEA
              generalize wc = wz at *
              obtain ⟨D1, hsl1, hin1⟩ := InR_pre elem_fl (f := flCells) DV dl.length dc k hk hdcap
              obtain ⟨D2, d2, hsl2, hin2⟩ := InR_suf elem_fl (f := flCells) DV dl.length dc k hk hdcap
              have hA1 := (Ext.refl wz).alloc (.cells #[] 64)
              have hi1 := hin1 _ dl rfl (fun _ _ => rfl) (hod.ext (hX2.trans hA1)).inR
              have hkl : (dl.take k).length ≤ 100000000 := by simp; omega
              go_wp2_with (at_builtin; go_must (refine wpList_appendR elem_fl rfl (.tmp 53) (.tmp 56) rfl wz.heap.size _ [] rfl (ownR_empty wz 64) _ (dl.take k) rfl hi1 (fun _ _ => rfl) (fun z _ => fl_one z) (by simp; omega) (by omega) hA1.size ?_); intro v8 w8 ho8 hg8; refine Hold.out ?_)
              refine Hold.mk ?_
              have hX8 : Ext wz w8 := hg8.ext hA1 (ownR_empty (f := flCells) (k := 2) wz 64).ge
              have hrg8 := fun i u h => (hX2.trans hX8).cell (hrg i u h)
              have hld8 := run_loadAt_mid (P := Try.prog) w8 b (off + j * 2) 64 _ _ hrg8 Try.underlying64 rfl (by kernel_rfl)
              have hn9 := OwnR_one (f := flCells) w8 (due, ⟨Y, yn, yc, yb⟩) rfl 64
              have hA9 := (Ext.refl w8).alloc (.cells (flCells (due, ⟨Y, yn, yc, yb⟩)).toArray 64)
              have ho9 := ho8.ext hA9
              have hs9 := (hX8.trans hA9).size
              obtain ⟨V8, c8, hv8, _, _⟩ := ho8.inR
              obtain ⟨N8, hN8⟩ : ∃ N8, N8 = ([] ++ dl.take k).length := ⟨_, rfl⟩
              rw [← hN8] at hv8
              subst hv8
              clear hld hN8 hA1 hi1 hg8
              go_wp2_with first | refine wpList_load_run rfl 64 (.tmp 61) rfl _ _ rfl hld8 ?_ | refine wpList_rowOne elem_fl rfl (.tmp 62) rfl #[.int .i64 due, .slice Y yn yc] rfl rfl (by omega) ?_ | (at_builtin; go_must (refine wpList_appendR elem_fl rfl (.tmp 58) (.tmp 63) rfl wz.heap.size _ ([] ++ dl.take k) rfl ho9 _ [((due, ⟨Y, yn, yc, yb⟩) : FZ)] rfl hn9.inR (fun _ _ => rfl) (fun z _ => fl_one z) (by simp; omega) (by omega) hs9 ?_); intro v10 w10 ho10 hg10; refine Hold.out ?_)
              refine Hold.mk ?_
              have hX10 : Ext wz w10 := hg10.ext (hX8.trans hA9) ho9.ge
              have hi2 := hin2 _ dl rfl (fun _ _ => rfl) (hod.ext (hX2.trans hX10)).inR
              have hs10 := hX10.size
              obtain ⟨V10, c10, hv10, _, _⟩ := ho10.inR
              obtain ⟨N10, hN10⟩ : ∃ N10, N10 = (([] ++ dl.take k) ++ [((due, ⟨Y, yn, yc, yb⟩) : FZ)]).length := ⟨_, rfl⟩
              rw [← hN10] at hv10
              subst hv10
              clear hN10 hA9 hn9 hg10 ho8 ho9 hld8 hs9
              go_wp2_with (at_builtin; go_must (refine wpList_appendR elem_fl rfl (.tmp 65) (.tmp 68) rfl wz.heap.size _ (([] ++ dl.take k) ++ [((due, ⟨Y, yn, yc, yb⟩) : FZ)]) rfl ho10 _ (dl.drop k) rfl hi2 (fun _ _ => rfl) (fun z _ => fl_one z) (by simp; omega) (by omega) hs10 ?_); intro v12 w12 ho12 hg12; refine Hold.out ?_)
              refine Hold.mk ?_
              have hX12 : Ext wz w12 := hg12.ext hX10 ho10.ge
              have hXo := hX2.trans hX12
              have hE12 := hE.trans hXo
              go_wp2_with fail
              go_roundw
              case rel =>
                have hlen : (([] ++ dl.take k) ++ [((due, ⟨Y, yn, yc, yb⟩) : FZ)] ++ dl.drop k).length = dl.length + 1 := by simp; omega
                refine ⟨j + 1, (([] ++ dl.take k) ++ [((due, ⟨Y, yn, yc, yb⟩) : FZ)]) ++ dl.drop k, rl, by omega, by go_num, ho12.low (hE.trans hX2).size, hor.ext hXo, fun q hq e8 => ?_, Lib.hid ?_, Lib.hid ?_, by rw [hlen]; omega, hE12⟩
                · have h1 := ho12.ge q hq
                  have h2 := hor.lt q e8
                  have := hX2.size
                  omega
                · rw [HT1.out, List.filter_append, HRL.out]; simp [hd]
                · rw [HT1.out, List.filter_append]
                  have hp : ((([] ++ dl.take k) ++ [((due, ⟨Y, yn, yc, yb⟩) : FZ)]) ++ dl.drop k).Perm (dl ++ [((due, ⟨Y, yn, yc, yb⟩) : FZ)]) := by
                    have e1 : dl ++ [((due, ⟨Y, yn, yc, yb⟩) : FZ)] = (dl.take k ++ dl.drop k) ++ [((due, ⟨Y, yn, yc, yb⟩) : FZ)] := by rw [List.take_append_drop]
                    rw [e1, List.nil_append, List.append_assoc, List.append_assoc]
                    exact List.Perm.append_left _ List.perm_append_comm
                  refine hp.trans ?_
                  have hf : [((due, ⟨Y, yn, yc, yb⟩) : FZ)].filter (fun z => !decide (now < z.1)) = [(due, ⟨Y, yn, yc, yb⟩)] := by simp [hd]
                  rw [hf]
                  exact HDL.out.append_right _
              case measure => simp [intOf]; omega
    · obtain rfl : j = zs.length := by omega
      have hij : ¬ ((zs.length : Nat) : Int) < (zs.length : Int) := by omega
      have HRL2 : Hid (rl = zs.filter (fun z => decide (now < z.1))) := Lib.hid (by have := HRL.out; rwa [List.take_length] at this)
      have HDL2 : Hid (dl.Perm (zs.filter (fun z => !decide (now < z.1)))) := Lib.hid (by have := HDL.out; rwa [List.take_length] at this)
      have HMEM : Hid (∀ z ∈ dl, z ∈ zs) := Lib.hid (fun z hz => (List.mem_filter.1 (HDL2.out.mem_iff.1 hz)).1)
      clear HRL HDL
      go_wp2_with fail
      go_loopw [11, 12] (fun v i wr => ∃ m : Nat, m ≤ dl.length ∧ i = .int .i64 (m : Int) ∧ QOwn wo.heap.size wr v ((dl.take m).map (·.2.b)) ∧ Ext wo wr) (fun _ i _ => dl.length - (intOf i).toNat)
      case atStart => exact ⟨0, by omega, rfl, QOwn.nil _, Ext.refl _⟩
      case round =>
        obtain ⟨m, hm, rfl, ho, hX⟩ := hrel
        obtain ⟨wz, rfl⟩ : ∃ wz : World, wz = wr := ⟨_, rfl⟩
        obtain ⟨OV, oc, hv, _⟩ := ho.in_.form
        obtain ⟨on, hon⟩ : ∃ on, on = ((dl.take m).map (·.2.b)).length := ⟨_, rfl⟩
        rw [← hon] at hv
        subst hv
        have HON := Lib.hid hon
        clear hon
        by_cases hml : m < dl.length
        · have hmi : (m : Int) < (dl.length : Int) := by omega
          obtain ⟨bd, od, rfl, hrg2⟩ := InR.at_ (k := 2) ((hod.ext hX).inR) (fun _ _ => rfl) (by omega) hml
          have HT2 := Lib.hid (List.take_succ_eq_append_getElem hml)
          have hib := (HB.out _ (HMEM.out _ (List.getElem_mem hml))).ext (hE.trans hX)
          have hbz := hbl _ (HMEM.out _ (List.getElem_mem hml))
          generalize dl[m] = zm at *
          obtain ⟨due, Y, yn, yc, yb⟩ := zm
          have c1 : wz.cell? ⟨bd, od + m * 2 + 1, none⟩ = some (.slice Y yn yc) := by have := hrg2 1 _ rfl; simpa [bodyV] using this
          have hyn : yn = yb.length := by
            obtain ⟨A', c', e, _⟩ := hib
            unfold bodyV at e
            injection e
          subst hyn
          have hib' : InB wz (.slice Y yb.length yc) yb := hib
          have hbz' : yb.length ≤ 1000000 := hbz
          have hA1 := (Ext.refl wz).alloc (.cells #[] 5)
          have hbx : bd < wz.heap.size := by have := World.block_lt_of_cell? _ _ c1; simpa using this
          have hol : ((dl.take m).map (·.2.b)).length ≤ 100000000 := by simp; omega
          obtain ⟨os, hos⟩ : ∃ os, os = ((dl.take m).map (·.2.b)) := ⟨_, rfl⟩
          rw [← hos] at ho hol
          have HOS := Lib.hid hos
          clear hos
          clear hib hbz
          go_wp2_with (at_builtin; go_must (refine wpList_appendV elem_u8 (fun _ => rfl) rfl (.tmp 77) (.tmp 82) rfl wz.heap.size _ [] rfl (ownV_empty wz 5) _ yb rfl (hib'.ext hA1) (by simp; omega) (by omega) hA1.size (Hold.out ?_)))
          refine Hold.mk fun v5 w5 ho5 hg5 => ?_
          have hX5 : Ext wz w5 := hg5.ext hA1 (ownV_empty (f := bv) wz 5).ge
          have ho5' : OwnV bv 5 wz.heap.size w5 v5 yb := by simpa using ho5
          obtain ⟨A5, c5, rfl, _, _⟩ := ho5'.inV
          obtain ⟨z, hzb, hzv⟩ : ∃ z : Body, z.b = yb ∧ bodyV z = .slice A5 yb.length c5 := ⟨⟨A5, yb.length, c5, yb⟩, rfl, rfl⟩
          have hA6 := (Ext.refl w5).alloc (.cells #[.slice A5 yb.length c5] 32)
          have hn6 := OwnV_new (f := bodyV) w5 z 32
          rw [hzv] at hn6
          obtain ⟨ys, hy1, hy2, hy3⟩ := ho.ext (hX5.trans hA6)
          have HY1 := Lib.hid hy1
          have HY3 := Lib.hid hy3
          have hyl : ys.length = os.length := by rw [← hy1]; simp
          have hyl2 : ys.length ≤ 100000000 := by omega
          have HYL := Lib.hid hyl
          have hs6 := (hX.trans (hX5.trans hA6)).size
          clear hy1 hy3 hyl
          go_wp2_with (at_builtin; go_must (refine wpList_appendV elem_bs (fun _ => rfl) rfl (.tmp 76) (.tmp 84) rfl wo.heap.size _ ys rfl hy2 _ [z] rfl hn6.inV (by simp; omega) (by omega) hs6 (Hold.out ?_)))
          refine Hold.mk fun v7 w7 ho7 hg7 => ?_
          have hzz : OwnV bv 5 wo.heap.size (w5.alloc (.cells #[.slice A5 yb.length c5] 32)) (bodyV z) z.b := by rw [hzb, hzv]; exact (ho5'.ext hA6).low hX.size
          have hq7 := QOwn.add HY1.out hy2 HY3.out hzz hg7 ho7
          rw [hzb] at hq7
          have hX7 := hg7.ext (hX.trans (hX5.trans hA6)) hy2.ge
          go_wp2_with fail
          go_roundw
          case rel =>
            refine ⟨m + 1, by omega, by go_num, ?_, hX7⟩
            rw [HT2.out, List.map_append, ← HOS.out]
            exact hq7
          case measure => simp [intOf]; omega
        · have hmi : ¬ (m : Int) < (dl.length : Int) := by omega
          have HTA : Hid ((dl.take m).map (·.2.b) = dl.map (·.2.b)) := Lib.hid (by rw [List.take_of_length_le (by omega)])
          go_wp2_with fail
          refine bodyPost_ret (by simp [results, Try.results18, go_sem]; rfl) rfl ?_
          exact ⟨_, _, dl.map (·.2.b), rl, rfl, by rw [← HTA.out]; exact ho.low hE.size, hor.ext hX, HRL2.out, HDL2.out.map _, hE.trans hX⟩
end Go.Proofs.Ytnobepobalpccaa
