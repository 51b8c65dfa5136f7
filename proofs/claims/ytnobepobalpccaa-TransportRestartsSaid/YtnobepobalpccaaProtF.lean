/- Fates: what numbers make of a link. -/
import Derived.Test.YtnobepobalpccaaProtC
import Derived.Test.YtnobepobalpccaaKit
import Derived.Deep.CutBlock
namespace Go.Proofs.Ytnobepobalpccaa
open Go.RowKit
set_option linter.unusedVariables false

theorem ft_info : (Try.prog.info? 44).map (fun i => (i.zero, i.size, i.bytes)) = some (some (.agg #[.slice none 0 0, .int .i64 0, .int .i64 0]), 3, 40) := by kernel_rfl
theorem elem_ft : ElemN Try.prog 29 44 3 40 := by
  rcases hi : Try.prog.info? 44 with _ | i
  · have := ft_info; rw [hi] at this; cases this
  · have := ft_info
    rw [hi] at this
    simp only [Option.map_some, Option.some.injEq, Prod.mk.injEq] at this
    exact ⟨Try.underlying29, by omega, i, _, hi, this.1, this.2.1, this.2.2, rfl⟩
structure Fate.OK (f : Fate) : Prop where
  few : f.delays.length ≤ 2
  delays : ∀ d ∈ f.delays, 1 ≤ d ∧ d ≤ 60
  mask : 0 ≤ f.mask ∧ f.mask < 65536
  at_ : 0 ≤ f.at_ ∧ f.at_ ≤ 29
def FatesPost (w : World) (en : Ending) (w' : World) : Prop := ∃ y zs, en = .returned y ∧ OwnR fateCells 3 44 w.heap.size w' y zs ∧ (∀ z ∈ zs, OwnV iv 3 w.heap.size w' z.2 z.1.delays) ∧ zs.length ≤ 60 ∧ (∀ z ∈ zs, z.1.OK) ∧ Ext w w'
theorem fate_one {z : Fate × Value} (h : z.2.oneCell' = true) : ∀ u ∈ fateCells z, u.oneCell' = true := by
  intro u hu
  simp only [fateCells, List.mem_cons, List.not_mem_nil, or_false] at hu
  rcases hu with rfl | rfl | rfl
  · exact h
  · rfl
  · rfl
theorem World.ext_alloc (W : World) (o : Obj) : Ext W (W.alloc o) := (Ext.refl W).alloc o
set_option maxHeartbeats 1000000 in
set_option maxRecDepth 100000 in
theorem Fates_any (x : Value) (l : List Int) (w : World) (hx : InI w x l) : Calls Try.prog 9 #[x] w (FatesPost w) := by
  obtain ⟨A, c, rfl, _, hr⟩ := hx
  go_enter Try.func9, Try.ntmps9
  go_wp2_with fail
  go_loopw [3, 4] (fun v i wr => ∃ (j : Nat) (zs : List (Fate × Value)), j ≤ l.length ∧ j ≤ 60 ∧ i = .int .i64 (j : Int) ∧ zs.length = j ∧ OwnR fateCells 3 44 w.heap.size wr v zs ∧ Hid (∀ z ∈ zs, OwnV iv 3 w.heap.size wr z.2 z.1.delays) ∧ Hid (∀ z ∈ zs, z.1.OK) ∧ Ext w wr) (fun _ i _ => 60 - (intOf i).toNat)
  case atStart => exact ⟨0, [], by omega, by omega, rfl, rfl, OwnR.nil _, Lib.hid (by simp), Lib.hid (by simp), Ext.refl _⟩
  case round =>
    obtain ⟨j, zs, hj, hj60, rfl, hzl, ho, HZ1, HZ2, hE⟩ := hrel
    obtain ⟨wo, rfl⟩ : ∃ wo : World, wo = wr := ⟨_, rfl⟩
    have HZL := Lib.hid hzl
    obtain ⟨V, cv, hv, _, _⟩ := ho.inR
    rw [hzl] at hv
    subst hv
    clear hzl
    by_cases h1 : j < l.length
    · have h1' : decide ((j : Int) < (l.length : Int)) = true := by simp; omega
      by_cases h2 : j < 60
      · have h2' : decide ((j : Int) < 60) = true := by simp; omega
        have hij : (j : Int) < (l.length : Int) := by omega
        obtain ⟨bb, oo, rfl, hcell⟩ := (hr.ext hE).at2 (k := j) (by simpa using h1)
        have hcell' : wo.cell? ⟨bb, oo + j, none⟩ = some (.int .i64 l[j]) := by rw [hcell]; simp [iv]
        generalize l[j] = lj at *
        clear hcell
        go_wp2_with fail
        refine (Mod_any lj 1048576 wo (by omega) (by omega)).mono ?_
        rintro en wo' ⟨rfl, rfl⟩
        obtain ⟨n, hn⟩ : ∃ n : Nat, lj % 1048576 = n := ⟨(lj % 1048576).toNat, by omega⟩
        have hnl : n < 1048576 := by omega
        rw [hn]
        clear hn
        go_upto_region 7 with fail
        have hO0 := (OwnV_new (f := iv) wo (1 + (n : Int) / 8 % 7) 3).ext (World.ext_alloc (wo.alloc (.cells #[iv (1 + (n : Int) / 8 % 7)] 3)) (.cells #[.slice (some ⟨wo.heap.size, 0, none⟩) 1 1, .int .i64 0, .int .i64 0] 44))
        have hG0 : ((wo.alloc (.cells #[.int .i64 (1 + (n : Int) / 8 % 7)] 3)).alloc (.cells #[.slice (some ⟨wo.heap.size, 0, none⟩) 1 1, .int .i64 0, .int .i64 0] 44)).heap[wo.heap.size + 1]? = some (.cells #[.slice (some ⟨wo.heap.size, 0, none⟩) 1 1, .int .i64 0, .int .i64 0] 44 (0, 0)) := by
          have := heap_alloc_new (wo.alloc (.cells #[.int .i64 (1 + (n : Int) / 8 % 7)] 3)) (.cells #[.slice (some ⟨wo.heap.size, 0, none⟩) 1 1, .int .i64 0, .int .i64 0] 44)
          simpa using this
        have hX0 := ((Ext.refl wo).alloc (.cells #[.int .i64 (1 + (n : Int) / 8 % 7)] 3)).alloc (.cells #[.slice (some ⟨wo.heap.size, 0, none⟩) 1 1, .int .i64 0, .int .i64 0] 44)
        unfold iv at hO0
        generalize (wo.alloc (.cells #[.int .i64 (1 + (n : Int) / 8 % 7)] 3)).alloc (.cells #[.slice (some ⟨wo.heap.size, 0, none⟩) 1 1, .int .i64 0, .int .i64 0] 44) = W at *
        go_upto_block 2 with fail
        obtain ⟨t, ht⟩ : ∃ t : Nat, (n : Int) % 8 = t := ⟨n % 8, by omega⟩
        rw [ht]
        clear ht
        go_cut [30] (fun _ wx => ∃ (f : Fate) (y : Value), wx.heap[wo.heap.size + 1]? = some (.cells #[y, .int .i64 f.at_, .int .i64 f.mask] 44 (0, 0)) ∧ OwnV iv 3 wo.heap.size wx y f.delays ∧ f.OK ∧ Ext wo wx)
        case first =>
          have f0 := blk_free hG0 0
          have f1 := blk_free hG0 1
          have f2 := blk_free hG0 2
          obtain ⟨q0, q1, q2⟩ := blk3 hG0
          have hltg := heap_lt hG0
          by_cases h0 : t = 0
          · have a0 : ((t : Int) == 0) = true := by simp; omega
            clear h0
            go_wp2_with fail
            go_meet
            refine ⟨⟨[], 0, 0⟩, .slice none 0 0, blk_set hG0 0 (.slice none 0 0), OwnV.nil _, ⟨by simp, by simp, by simp, by simp⟩, hX0.setCell (p := ⟨wo.heap.size + 1, 0, none⟩) (by show wo.heap.size ≤ wo.heap.size + 1; omega) _⟩
          have a0 : ((t : Int) == 0) = false := by simp; omega
          by_cases h1 : t = 1
          · have a1 : ((t : Int) == 1) = true := by simp; omega
            have hsz : (W.setCell ⟨wo.heap.size + 1, 0, none⟩ (.slice (some ⟨W.heap.size, 0, none⟩) 2 2)).heap.size = W.heap.size := by simp [World.setCell]
            have hn2 := OwnV_new2 (f := iv) (W.setCell ⟨wo.heap.size + 1, 0, none⟩ (.slice (some ⟨W.heap.size, 0, none⟩) 2 2)) 1 (1 + (n : Int) / 8 % 40) 3
            rw [hsz] at hn2
            have hGA := blk_alloc (blk_set hG0 0 (.slice (some ⟨W.heap.size, 0, none⟩) 2 2)) (.cells #[.int .i64 1, .int .i64 (1 + (n : Int) / 8 % 40)] 3)
            have hXA := (hX0.setCell (p := ⟨wo.heap.size + 1, 0, none⟩) (by show wo.heap.size ≤ wo.heap.size + 1; omega) (.slice (some ⟨W.heap.size, 0, none⟩) 2 2)).alloc (.cells #[.int .i64 1, .int .i64 (1 + (n : Int) / 8 % 40)] 3)
            have hs0 := hX0.size
            clear h0 h1 hsz
            go_wp2_with fail
            go_meet
            refine ⟨⟨[1, 1 + (n : Int) / 8 % 40], 0, 0⟩, .slice (some ⟨W.heap.size, 0, none⟩) 2 2, hGA, OwnV.low (f := iv) (l := [1, 1 + (n : Int) / 8 % 40]) hn2 hs0, ⟨by simp, ?_, by simp, by simp⟩, hXA⟩
            intro d hd
            simp only [List.mem_cons, List.not_mem_nil, or_false] at hd
            rcases hd with rfl | rfl <;> omega
          have a1 : ((t : Int) == 1) = false := by simp; omega
          have hd1 : ∀ d ∈ [1 + (n : Int) / 8 % 7], 1 ≤ d ∧ d ≤ 60 := by
            intro d hd
            simp only [List.mem_cons, List.not_mem_nil, or_false] at hd
            subst hd
            omega
          by_cases h2' : t = 2
          · have a2 : ((t : Int) == 2) = true := by simp; omega
            have HD1 := Lib.hid hd1
            clear h0 h1 h2' hd1
            go_wp2_with fail
            go_meet
            have hb1 := blk_set hG0 1 (.int .i64 ((n : Int) / 64 % 30))
            refine ⟨⟨[1 + (n : Int) / 8 % 7], (n : Int) / 64 % 30, (n : Int) / 8 % 65536⟩, .slice (some ⟨wo.heap.size, 0, none⟩) 1 1, blk_set hb1 2 (.int .i64 ((n : Int) / 8 % 65536)), ?_, ⟨by simp, HD1.out, by show 0 ≤ (n : Int) / 8 % 65536 ∧ (n : Int) / 8 % 65536 < 65536; omega, by show 0 ≤ (n : Int) / 64 % 30 ∧ (n : Int) / 64 % 30 ≤ 29; omega⟩, (hX0.setCell (p := ⟨wo.heap.size + 1, 1, none⟩) (by show wo.heap.size ≤ wo.heap.size + 1; omega) _).setCell (p := ⟨wo.heap.size + 1, 2, none⟩) (by show wo.heap.size ≤ wo.heap.size + 1; omega) _⟩
            have hk1 := OwnV.kept (f := iv) (l := [1 + (n : Int) / 8 % 7]) hO0 (gset W ⟨wo.heap.size + 1, 1, none⟩ (.int .i64 ((n : Int) / 64 % 30))) (.inr (OwnV.ne_blk (f := iv) (l := [1 + (n : Int) / 8 % 7]) hO0 hG0 (by decide)))
            exact hk1.kept (gset _ ⟨wo.heap.size + 1, 2, none⟩ _) (.inr (hk1.ne_blk hb1 (by decide)))
          have a2 : ((t : Int) == 2) = false := by simp; omega
          by_cases h3 : t = 3
          · have a3 : ((t : Int) == 3) = true := by simp; omega
            have hsz : (W.setCell ⟨wo.heap.size + 1, 0, none⟩ (.slice (some ⟨W.heap.size, 0, none⟩) 1 1)).heap.size = W.heap.size := by simp [World.setCell]
            have hn2 := OwnV_new (f := iv) (W.setCell ⟨wo.heap.size + 1, 0, none⟩ (.slice (some ⟨W.heap.size, 0, none⟩) 1 1)) (1 + (n : Int) / 8 % 60) 3
            rw [hsz] at hn2
            have hGA := blk_alloc (blk_set hG0 0 (.slice (some ⟨W.heap.size, 0, none⟩) 1 1)) (.cells #[.int .i64 (1 + (n : Int) / 8 % 60)] 3)
            have hXA := (hX0.setCell (p := ⟨wo.heap.size + 1, 0, none⟩) (by show wo.heap.size ≤ wo.heap.size + 1; omega) (.slice (some ⟨W.heap.size, 0, none⟩) 1 1)).alloc (.cells #[.int .i64 (1 + (n : Int) / 8 % 60)] 3)
            have hs0 := hX0.size
            clear h0 h1 h2' h3 hsz
            go_wp2_with fail
            go_meet
            refine ⟨⟨[1 + (n : Int) / 8 % 60], 0, 0⟩, .slice (some ⟨W.heap.size, 0, none⟩) 1 1, hGA, OwnV.low (f := iv) (l := [1 + (n : Int) / 8 % 60]) hn2 hs0, ⟨by simp, ?_, by simp, by simp⟩, hXA⟩
            intro d hd
            simp only [List.mem_cons, List.not_mem_nil, or_false] at hd
            subst hd
            omega
          have a3 : ((t : Int) == 3) = false := by simp; omega
          have HD1 := Lib.hid hd1
          clear h0 h1 h2' h3 hd1
          go_wp2_with fail
          go_meet
          exact ⟨⟨[1 + (n : Int) / 8 % 7], 0, 0⟩, .slice (some ⟨wo.heap.size, 0, none⟩) 1 1, hG0, hO0, ⟨by simp, HD1.out, by simp, by simp⟩, hX0⟩
        case rest =>
          obtain ⟨f, y, hG, hO, hOK, hX⟩ := hcut
          obtain ⟨Y, cy, rfl, _, _⟩ := hO.inV
          clear hG0 hO0 hX0
          have hld := run_loadAt_blk (P := Try.prog) wc (wo.heap.size + 1) 44 44 _ (0, 0) _ hG Try.underlying44 rfl ft_size
          have hn7 := OwnR_one (f := fateCells) wc (f, .slice Y f.delays.length cy) rfl 44
          have hA7 := (Ext.refl wc).alloc (.cells (fateCells (f, .slice Y f.delays.length cy)).toArray 44)
          have ho7 := ho.ext (hX.trans hA7)
          have hs7 := (hE.trans (hX.trans hA7)).size
          have hzl : zs.length = j := HZL.out
          have HOK := Lib.hid hOK
          clear hOK
          go_wp2_with first | refine wpList_load_run rfl 44 (.tmp 6) rfl _ _ rfl hld ?_ | refine wpList_rowOne elem_ft rfl (.tmp 60) rfl #[.slice Y f.delays.length cy, .int .i64 f.at_, .int .i64 f.mask] rfl rfl (by omega) ?_ | (at_builtin; go_must (refine wpList_appendR elem_ft rfl (.tmp 59) (.tmp 61) rfl w.heap.size _ zs rfl ho7 _ [((f, .slice Y f.delays.length cy) : Fate × Value)] rfl hn7.inR (fun _ _ => rfl) (fun z hz => by simp only [List.mem_singleton] at hz; subst hz; exact fate_one rfl) (by simp; omega) (by omega) hs7 ?_); intro v8 w8 ho8 hg8; refine Hold.out ?_)
          refine Hold.mk ?_
          have hE8 := hg8.ext (hE.trans (hX.trans hA7)) ho7.ge
          go_wp2_with fail
          go_roundw
          case rel =>
            refine ⟨j + 1, zs ++ [(f, .slice Y f.delays.length cy)], by omega, by omega, by go_num, by simp [hzl], ho8, Lib.hid fun z hz => ?_, Lib.hid fun z hz => ?_, hE8⟩
            · rcases List.mem_append.1 hz with hz | hz
              · have h := (HZ1.out z hz).ext (hX.trans hA7)
                exact h.kept hg8.grown (row_ne h ho7 (by decide))
              · simp only [List.mem_singleton] at hz
                subst hz
                have h := (hO.ext hA7).low (base' := w.heap.size) hE.size
                exact h.kept hg8.grown (row_ne h ho7 (by decide))
            · rcases List.mem_append.1 hz with hz | hz
              · exact HZ2.out z hz
              · simp only [List.mem_singleton] at hz
                subst hz
                exact HOK.out
          case measure => simp [intOf]; omega
      · have h2' : decide ((j : Int) < 60) = false := by simp; omega
        go_wp2_with fail
        go_ret
        exact ⟨_, zs, rfl, ho, HZ1.out, by have := HZL.out; omega, HZ2.out, hE⟩
    · have h1' : decide ((j : Int) < (l.length : Int)) = false := by simp; omega
      go_wp2_with fail
      go_ret
      exact ⟨_, zs, rfl, ho, HZ1.out, by have := HZL.out; omega, HZ2.out, hE⟩
end Go.Proofs.Ytnobepobalpccaa
