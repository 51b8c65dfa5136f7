/- Replies: how the reference decodes them. -/
import Derived.Test.YtoeibcpjmoekpaaRepN
namespace Go.Proofs.Ytoeibcpjmoekpaa
open Go.RowKit
set_option linter.unusedVariables false

structure StageR (w W : World) (g5 : Nat) (A : Option Addr) (c : Nat) (b : List UInt8) (err : Int) (yw yt : Value) (words : List Int) (us : List (Thr × Value)) (st : Option Int) : Prop where
  rs : RS 100 w W (w.heap.size + 1) (.slice A b.length c) b st
  res : W.heap[w.heap.size]? = some (.cells #[.int .i64 0, (.slice none 0 0), (.slice none 0 0), (.slice none 0 0), .int .i64 0, .int .i64 0, .int .i64 0, .int .i64 0, .int .i64 0, .int .i64 0, .int .i64 0] 58 (0, 0))
  rep : W.heap[g5]? = some (.cells #[.int .i64 err, yw, yt, (.slice none 0 0), .int .i64 0, .int .i64 0, .int .i64 0, .int .i64 0, .int .i64 0, .int .i64 0, .int .i64 0] 58 (0, 0))
  rows : RowsAt w.heap.size W yw yt (.slice none 0 0) words us []
def pre3 (err : Int) (words : List Int) (n : Nat) (ts : List Thr) : List UInt8 := leb (zig err) ++ listB words ++ uintB (n : Nat) ++ thrsB ts
theorem pre3_step {err : Int} {words : List Int} {n : Nat} {ts : List Thr} {t : Thr} : pre3 err words n ts ++ thrB t = pre3 err words n (ts ++ [t]) := by
  simp [pre3, thrsB, List.append_assoc]
theorem stop7 {b : List UInt8} {err : Int} {words : List Int} {ts : List Thr} {out l : List Int} {st st' : Option Int} (h : Dec3 b err words ts out st) (h1 : ListIs (st.bind (listR b 7)) l st') (hn : l.length ≠ 7 ∨ st' ≠ some (b.length : Int)) : ¬ ∃ r : Rep, r.Enc b := fun ⟨r, hr⟩ => by
  obtain ⟨_, _, _, _, rfl⟩ := h r hr
  obtain ⟨rfl, rfl⟩ := listIs_eq h1 (rd6' hr)
  rcases hn with h | h
  · exact h rfl
  · exact h rfl
theorem ListIs.some7 {b : List UInt8} {st : Option Int} {l : List Int} {p : Int} (h : ListIs (st.bind (listR b 7)) l (some p)) : st.isSome = true := by
  rcases h with ⟨q, h, _⟩ | ⟨_, h⟩
  · rcases st with _ | x
    · cases h
    · rfl
  · cases h
set_option maxHeartbeats 4000000 in
set_option maxRecDepth 100000 in
theorem refDecodeReply_any (y : Value) (b : List UInt8) (w : World) (hy : InB w y b) (hl : b.length ≤ 100000) :
    Calls Try.prog 37 #[y] w (DecRPost b w) := by
  obtain ⟨A, c, rfl, _, _⟩ := id hy
  go_enter Try.func37, Try.ntmps37
  go_upto_region 2 with fail
  obtain ⟨W, hW, hE, hB, hR⟩ : ∃ W, W = (w.alloc (.cells #[.int .i64 0, (.slice none 0 0), (.slice none 0 0), (.slice none 0 0), .int .i64 0, .int .i64 0, .int .i64 0, .int .i64 0, .int .i64 0, .int .i64 0, .int .i64 0] 58)).alloc (.cells #[.slice A b.length c, .int .i64 0, .bool false] 100) ∧ Ext w W ∧ W.heap[w.heap.size]? = some (.cells #[.int .i64 0, (.slice none 0 0), (.slice none 0 0), (.slice none 0 0), .int .i64 0, .int .i64 0, .int .i64 0, .int .i64 0, .int .i64 0, .int .i64 0, .int .i64 0] 58 (0, 0)) ∧ W.heap[w.heap.size + 1]? = some (.cells #[.slice A b.length c, .int .i64 0, .bool false] 100 (0, 0)) := ⟨_, rfl, ((Ext.refl w).alloc _).alloc _, ((Ext.refl _).alloc _).heap (heap_alloc_new w _), by have := heap_alloc_new (w.alloc (.cells #[.int .i64 0, (.slice none 0 0), (.slice none 0 0), (.slice none 0 0), .int .i64 0, .int .i64 0, .int .i64 0, .int .i64 0, .int .i64 0, .int .i64 0, .int .i64 0] 58)) (.cells #[.slice A b.length c, .int .i64 0, .bool false] 100); simpa using this⟩
  rw [← hW]
  clear hW
  have hS : RS 100 w W (w.heap.size + 1) (.slice A b.length c) b (some 0) := ⟨hy, hE, by omega, 0, false, hR, rfl⟩
  go_wp2_with fail
  refine (rfInt_any w W (w.heap.size + 1) _ b (some 0) hS (by omega)).mono ?_
  rintro e w2 ⟨rfl, hS2, hg2⟩
  have hB2 := blk_grown hB hg2 (by simp)
  have hlt2 : w.heap.size + 1 < w2.heap.size := by
    obtain ⟨p, bad, h, _⟩ := hS2.blk
    exact World.block_lt_of_cell? _ _ (blk3 h).1
  clear hS hB hR hE hg2
  have HE := Lib.hid (numR_i64 b (some 0))
  have HD : Hid (∀ words st2, ListIs ((numR b (some 0)).2.bind (listR b 128)) words st2 → Dec1 b (numR b (some 0)).1 words [] (uR b st2).1.toNat (uR b st2).2) := Lib.hid fun _ _ h => Dec1.start' h
  have HK := Lib.hid ((BackSt.start b).num)
  generalize (numR b (some 0)).1 = err at *
  generalize (numR b (some 0)).2 = st1 at *
  go_wp2_with fail
  refine (rfList_any w w2 (w.heap.size + 1) _ b st1 128 (by omega) (by omega) hS2 (by omega)).mono ?_
  rintro e w4 ⟨yw, words, st4, rfl, ho4, hS4, hI4, hl4, hok4, hg4⟩
  have HD1 := Lib.hid (HD.out _ _ hI4)
  have HK1 := Lib.hid (HK.out.list hI4).cnt
  have HOW := Lib.hid hok4
  have hB4 := blk_grown hB2 hg4 (by simp)
  have ho4' := ho4.low (base' := w.heap.size) hS2.ext.size
  have hs4 := (World.grownBy.size hg4)
  obtain ⟨Aw, cw, rfl, _, _⟩ := ho4.inV
  clear hI4 HD HK hok4 hB2 hS2 hg4 ho4
  go_upto_region 3 with fail
  have hX5 := (Ext.refl w4).alloc (.cells #[.int .i64 err, (Value.slice Aw words.length cw), (.slice none 0 0), (.slice none 0 0), .int .i64 0, .int .i64 0, .int .i64 0, .int .i64 0, .int .i64 0, .int .i64 0, .int .i64 0] 58)
  have hQ5 := heap_alloc_new w4 (.cells #[.int .i64 err, (Value.slice Aw words.length cw), (.slice none 0 0), (.slice none 0 0), .int .i64 0, .int .i64 0, .int .i64 0, .int .i64 0, .int .i64 0, .int .i64 0, .int .i64 0] 58)
  have hB5 := hX5.heap hB4
  have hS5 := hS4.grow hX5
  have ho5 := ho4'.ext hX5
  clear hX5 hB4 hS4 ho4'
  generalize w4.alloc (.cells #[.int .i64 err, (Value.slice Aw words.length cw), (.slice none 0 0), (.slice none 0 0), .int .i64 0, .int .i64 0, .int .i64 0, .int .i64 0, .int .i64 0, .int .i64 0, .int .i64 0] 58) = w5 at *
  generalize w4.heap.size = g5 at *
  go_wp2_with fail
  refine (rfUint_any w w5 (w.heap.size + 1) _ b st4 hS5 (by omega)).mono ?_
  rintro e w6 ⟨rfl, hS6, hg6⟩
  have hr := u_range b st4
  generalize (uR b st4).2 = st6 at *
  generalize (uR b st4).1 = n at *
  obtain ⟨n, rfl⟩ := Int.eq_ofNat_of_zero_le hr.1
  rw [Int.toNat_natCast] at HD1 HK1
  have H0 : StageR w w6 g5 A c b err (Value.slice Aw words.length cw) (.slice none 0 0) words [] st6 := by
    obtain ⟨p, bad, h, _⟩ := hS5.blk
    exact ⟨hS6, blk_grown hB5 hg6 (by simp), blk_grown hQ5 hg6 (by simp; omega), ⟨ho5.kept hg6 (.inr (ho5.ne_blk h (by decide))), OwnR.nil _, by simp, by simp, OwnR.nil _⟩⟩
  clear hS6 hg6 hS5 hB5 hQ5 ho5
  have hlt6 := heap_lt H0.rep
  by_cases hn8 : 8 < n
  · have e20 : (8 : Int) < (n : Int) := by omega
    have HN : ¬ ∃ r : Rep, r.Enc b := HD1.out.many hn8
    have hB22 := H0.res
    have hE22 : Ext w w6 := H0.rs.ext
    generalize w6 = W22 at *
    have hst := run_storeAt_blk (P := Try.prog) W22 w.heap.size 58 58 _ #[.int .i64 0, (.slice none 0 0), (.slice none 0 0), (.slice none 0 0), .int .i64 0, .int .i64 0, .int .i64 0, .int .i64 0, .int .i64 0, .int .i64 0, .int .i64 0] hB22 rep_size rfl (by simp [Value.oneCell'])
    go_wp2_with first | refine wpList_store_run rfl 58 (.tmp 2) (.tmp 21) rfl _ _ _ rfl rfl hst ?_
    have hB25 := setRow_heap W22 w.heap.size _ #[.int .i64 0, (.slice none 0 0), (.slice none 0 0), (.slice none 0 0), .int .i64 0, .int .i64 0, .int .i64 0, .int .i64 0, .int .i64 0, .int .i64 0, .int .i64 0] _ _ hB22
    have hg25 := gsetRow W22 w.heap.size #[.int .i64 0, (.slice none 0 0), (.slice none 0 0), (.slice none 0 0), .int .i64 0, .int .i64 0, .int .i64 0, .int .i64 0, .int .i64 0, .int .i64 0, .int .i64 0]
    have hE25 := hE22.grown hg25 (fun k e => by cases e; omega)
    generalize W22.setRow w.heap.size #[.int .i64 0, (.slice none 0 0), (.slice none 0 0), (.slice none 0 0), .int .i64 0, .int .i64 0, .int .i64 0, .int .i64 0, .int .i64 0, .int .i64 0, .int .i64 0] = W25 at *
    obtain ⟨e0, e1, e2, e3, e4, e5, e6, e7, e8, e9, e10⟩ := blk11 hB25
    refine bodyPost_ret (v := .tuple #[.agg #[.int .i64 0, (.slice none 0 0), (.slice none 0 0), (.slice none 0 0), .int .i64 0, .int .i64 0, .int .i64 0, .int .i64 0, .int .i64 0, .int .i64 0, .int .i64 0], .int .i64 4]) (by simp [results, Try.results37, go_sem, e0, e1, e2, e3, e4, e5, e6, e7, e8, e9, e10]) rfl ?_
    exact ⟨_, rep0, 4, rfl, .inr ⟨rfl, rfl, HN⟩, ⟨_, _, _, rfl, InV.nil _, ThrsAt.nil _, InR.nil _⟩, hE25⟩
  have e20 : ¬ (8 : Int) < (n : Int) := by omega
  have HK2 : Hid (BackSt b (pre3 err words n []) st6) := Lib.hid (by
    have := HK1.out
    simpa [pre3, thrsB] using this)
  clear HK1
  go_wp2_with fail
  go_loopw [7] (fun i wr => ∃ (j k : Nat) (st : Option Int) (yt : Value) (us : List (Thr × Value)), i = .int .i64 (j : Int) ∧ j + k = n ∧ us.length = j ∧ StageR w wr g5 A c b err (Value.slice Aw words.length cw) yt words us st ∧ Hid (Dec1 b err words (us.map Prod.fst) k st) ∧ Hid (ThrsOk us) ∧ Hid (BackSt b (pre3 err words n (us.map Prod.fst)) st)) (fun i _ => n - (intOf i).toNat)
  case atStart => exact ⟨0, n, st6, _, [], rfl, by omega, rfl, H0, HD1, Lib.hid ⟨by simp, by simp⟩, HK2⟩
  case round =>
    clear H0 HD1 HK2
    obtain ⟨j, k, st, yt, us, rfl, hjk, hus, hT, HD, HT, HK⟩ := hrel
    have HUS := Lib.hid hus
    have hul : us.length ≤ 8 := by omega
    clear hus
    obtain ⟨wo, rfl⟩ : ∃ wo : World, wo = wr := ⟨_, rfl⟩
    obtain ⟨p, bad, hBR, hst⟩ := id hT.rs.blk
    obtain ⟨r0, r1, r2, _, _, _⟩ := blk3 hBR
    go_upto_region 7 with fail
    go_cut [31] from 22 to 40 (fun s wx => s = .bool (decide (0 < k) && !bad) ∧ wo = wx)
    case first =>
      rcases k with _ | k
      · have hk : ¬ (j : Int) < (n : Int) := by omega
        go_wp2_with fail
        go_meet
        exact ⟨rfl, rfl⟩
      · have hk : (j : Int) < (n : Int) := by omega
        cases bad with
        | true =>
          go_wp2_with fail
          go_meet
          exact ⟨rfl, rfl⟩
        | false =>
          go_wp2_with fail
          go_meet
          exact ⟨rfl, rfl⟩
    case rest =>
      obtain ⟨rfl, rfl⟩ := hcut
      clear r0 r1 r2
      have hltg := heap_lt hT.rep
      cases hgo : (decide (0 < k) && !bad) with
      | true =>
        obtain ⟨hk0, rfl⟩ : 0 < k ∧ bad = false := by simpa using hgo
        clear hgo
        obtain ⟨k, rfl⟩ : ∃ j, k = j + 1 := ⟨k - 1, by omega⟩
        clear hk0 hst
        go_wp2_with fail
        refine wp_region_Z #[true, true, true, true, true, false, false, false] (some (w.heap.size + 1)) 5 3 (by kernel_rfl) rfl ?_
        refine wpZ_v 0 (.pointer (some ⟨g5, 2, none⟩)) rfl rfl (by kernel_rfl) (by kernel_rfl) (by kernel_rfl) (fun _ _ _ _ h => h) (by kernel_rfl) rfl (by rfl) (fun W' hW => by
          skip
          go_simp) ?_
        simp only [List.setIfInBounds_toArray, List.set_cons_zero, List.set_cons_succ]
        refine wpZ_v 1 (yt) rfl rfl (by kernel_rfl) (by kernel_rfl) (by kernel_rfl) (fun _ _ _ _ h => h) (by kernel_rfl) rfl (by rfl) (fun W' hW => by
          have qq := blk_at (blk_grown (((Ext.refl wo).drew).heap hT.rep) hW (by simp; omega)) 2 _ rfl
          go_simp) ?_
        simp only [List.setIfInBounds_toArray, List.set_cons_zero, List.set_cons_succ]
        refine wpZ_v 2 (.pointer (some ⟨w.heap.size + 1, 0, none⟩)) rfl rfl (by kernel_rfl) (by kernel_rfl) (by kernel_rfl) (fun _ _ _ _ h => h) (by kernel_rfl) rfl (by rfl) (fun W' hW => by
          skip
          go_simp) ?_
        simp only [List.setIfInBounds_toArray, List.set_cons_zero, List.set_cons_succ]
        refine wpZ_c 3 60 #[.pointer (some ⟨w.heap.size + 1, 0, none⟩)] rfl rfl (by kernel_rfl) rfl (by rfl) (fun W => by go_simp) ?_
        intro W7 hW7
        have hX7 := ((Ext.refl wo).drew).trans hW7
        refine (rfThread_any w W7 (w.heap.size + 1) _ b st (hT.rs.grow hX7) (by omega)).mono ?_
        rintro e w8 ⟨t, z, st8, rfl, hreg, ho8, hS8, hI8, hok8, hla8, hg8⟩
        refine ⟨_, rfl, hg8, ?_⟩
        simp only [List.setIfInBounds_toArray, List.set_cons_zero, List.set_cons_succ]
        have HI8 := Lib.hid hI8
        have HO8 := Lib.hid hok8
        have hB8 := blk_grown (hX7.heap hT.res) hg8 (by simp)
        have hQ8 := blk_grown (hX7.heap hT.rep) hg8 (by simp; omega)
        have hr8 := (hT.rows.ext hX7).far hg8 (hX7.heap hBR) (by decide) (by decide) (by decide)
        have ho8' := ho8.low (base' := w.heap.size) (hT.rs.grow hX7).ext.size
        clear hI8 hok8 hg8 ho8 hT hBR hW7
        obtain ⟨cs, hcs⟩ : ∃ cs, cs = (thrCells (t, z)).toArray := ⟨_, rfl⟩
        have hcl : cs.size = 20 := by rw [hcs, List.size_toArray]; exact thr_len (z := (t, z)) hreg
        have hti : ThrIn w8 (t, z) := ⟨hreg, ho8'.inV⟩
        rw [← hcs]
        refine wpZ_m 4 rfl rfl (by kernel_rfl) rfl (by rfl) fun W9 hW9 => ?_
        have hX9 := (Ext.refl W9).alloc (.cells cs 91)
        refine ⟨.slice (some ⟨W9.heap.size, 0, none⟩) 1 1, W9.alloc (.cells cs 91), ?_, hX9.grownBy _, ?_⟩
        · have hrow := run_rowOne elem_thr W9 cs hcl (by omega)
          simp [execOp, Act.eval, hrow]
        simp only [List.setIfInBounds_toArray, List.set_cons_zero, List.set_cons_succ]
        have hin : InR thrCells (W9.alloc (.cells cs 91)) (.slice (some ⟨W9.heap.size, 0, none⟩) 1 1) [(t, z)] := by rw [hcs]; exact (OwnR_one W9 (t, z) (thr_len (z := (t, z)) hreg) 91).inR
        have hXX := hW9.trans hX9
        generalize W9.alloc (.cells cs 91) = W10 at *
        generalize W9.heap.size = gn at *
        refine wpZ_end rfl fun W11 hW11 => tail_seq 5 rfl (by kernel_rfl) ?_
        simp only [List.drop_succ_cons, List.drop_zero]
        have hX11 := hXX.trans hW11
        have hr13 := hr8.ext hX11
        have hS13 := hS8.grow hX11
        have hB13 := hX11.heap hB8
        have hQ13 := hX11.heap hQ8
        have hat := ho8'.ext hX11
        have hin13 := hin.ext hW11
        have hsz := hS13.ext.size
        clear hr8 hS8 hB8 hQ8 ho8' hin hcs hX9 hXX hW9
        go_wp2_with (at_builtin; go_must (refine wpList_appendR elem_thr rfl (.tmp 35) (.tmp 38) rfl w.heap.size yt us rfl hr13.thr _ [(t, z)] rfl hin13 (fun a ha => by simp only [List.mem_singleton] at ha; subst ha; exact thr_len (z := (t, z)) hreg) (fun a ha => by simp only [List.mem_singleton] at ha; subst ha; exact hti.one) (by simp; omega) (by omega) (by omega) (Hold.out ?_)))
        refine Hold.mk fun v15 w15 ho15 hg15 => ?_
        obtain ⟨A15, c15, hv15, _, _⟩ := ho15.inR
        rw [List.length_append, List.length_singleton] at hv15
        subst hv15
        have hr15 := hr13.addT hg15 ho15 hreg hat
        obtain ⟨pr, badr, hBR, _⟩ := id hS13.blk
        have hS15 := hS13.far hg15.grown (hr13.thr.ne_blk hBR (by decide)).symm hr13.thr.ge
        have hB15 := blk_grown hB13 hg15.grown (hr13.thr.ne_blk hB13 (by decide)).symm
        have hQ15 := blk_grown hQ13 hg15.grown (hr13.thr.ne_blk hQ13 (by decide)).symm
        clear hin13 hX11 hW11 hsz hS13 hB13 hQ13 hr13 hg15 ho15 hBR hti hat
        obtain ⟨q0, q1, q2, q3, q4, q5, q6, q7, q8, q9, q10⟩ := blk11 hQ15
        have f2 := blk_free hQ15 2
        have hlt15 := heap_lt hQ15
        go_wp2_with fail
        refine NoPanic.normal ?_
        have hg16 : w15.grownBy (w15.setCell ⟨g5, 2, none⟩ (Value.slice A15 (us.length + 1) c15)) (some g5) := gset w15 ⟨g5, 2, none⟩ (Value.slice A15 (us.length + 1) c15)
        have hQ16 := blk_set hQ15 2 (Value.slice A15 (us.length + 1) c15)
        have hB16 := blk_grown hB15 hg16 (by simp; omega)
        have hS16 := hS15.far hg16 (by simp; omega) (fun k e => by cases e; omega)
        have hr16 := hr15.far hg16 hQ15 (by decide) (by decide) (by decide)
        clear q0 q1 q2 q3 q4 q5 q6 q7 q8 q9 q10 f2 hQ15 hB15 hS15 hr15 hg16 hlt15
        generalize w15.setCell ⟨g5, 2, none⟩ (Value.slice A15 (us.length + 1) c15) = w16 at *
        have H16 : StageR w w16 g5 A c b err (Value.slice Aw words.length cw) (Value.slice A15 (us.length + 1) c15) words (us ++ [(t, z)]) st8 := ⟨hS16, hB16, hQ16, hr16⟩
        have HD16 : Hid (Dec1 b err words ((us ++ [(t, z)]).map Prod.fst) k st8) := Lib.hid (by
          have := HD.out.step' HI8.out
          rw [List.map_append, List.map_cons, List.map_nil]
          exact this)
        have HK16 : Hid (BackSt b (pre3 err words n ((us ++ [(t, z)]).map Prod.fst)) st8) := Lib.hid (by
          have := HK.out.thr HI8.out
          rw [pre3_step] at this
          rw [List.map_append, List.map_cons, List.map_nil]
          exact this)
        have HT16 : Hid (ThrsOk (us ++ [(t, z)])) := Lib.hid (by
          refine ⟨fun u hu => ?_, fun u hu => ?_⟩
          · rcases List.mem_append.1 hu with hu | hu
            · exact HT.out.ok u hu
            · simp only [List.mem_singleton] at hu; subst hu; exact HO8.out
          · rcases List.mem_append.1 hu with hu | hu
            · exact HT.out.args u hu
            · simp only [List.mem_singleton] at hu; subst hu; exact hla8)
        clear hS16 hB16 hQ16 hr16
        go_wp2_with fail
        go_roundw
        case rel => exact ⟨j + 1, k, st8, _, us ++ [(t, z)], by go_num, by omega, by have := HUS.out; simp; omega, H16, HD16, HT16, HK16⟩
        case measure => simp [intOf]; omega
      | false =>
        have HD2 : Hid (Dec2 b err words (us.map Prod.fst) st) := Lib.hid (by
          rcases Nat.eq_zero_or_pos k with rfl | hk
          · exact HD.out.done
          · have hb : bad = true := by simpa [hk] using hgo
            subst hb
            rw [hst] at HD
            exact Dec2.of_none HD.out.none)
        have HK3 : Hid (BackSt b (pre3 err words us.length (us.map Prod.fst)) st) := Lib.hid (by
          rcases Nat.eq_zero_or_pos k with rfl | hk
          · have := HUS.out
            rw [show us.length = n by omega]
            exact HK.out
          · have hb : bad = true := by simpa [hk] using hgo
            subst hb
            rw [hst]
            exact BackSt.none _ _)
        clear hgo HD hst HK HUS
        go_wp2_with fail
        refine (rfOutput_any w wo (w.heap.size + 1) _ b st hT.rs (by omega)).mono ?_
        rintro e w17 ⟨vo, outs, out, st17, rfl, ho17, hS17, hP17, hl17, hI17, hok17, hg17⟩
        have HD3 := Lib.hid (HD2.out.out' hI17)
        have HK4 := Lib.hid (HK3.out.out hI17)
        have HO17 := Lib.hid hok17
        have HP2 := Lib.hid hP17
        have hlo := outP_len out
        rw [← hP17] at hlo
        have hB17 := blk_grown hT.res hg17 (by simp)
        have hQ17 := blk_grown hT.rep hg17 (by simp; omega)
        have hr17 := hT.rows.far hg17 hBR (by decide) (by decide) (by decide)
        have ho17' := ho17.low (base' := w.heap.size) hT.rs.ext.size
        have hr17' : RowsAt w.heap.size w17 (Value.slice Aw words.length cw) yt vo words us outs := ⟨hr17.words, hr17.thr, hr17.regs, hr17.args, ho17'⟩
        clear hI17 hok17 HD2 HK3 hT hBR hg17 ho17 hP17 hr17 ho17'
        obtain ⟨Ao, co, rfl, _, _⟩ := hr17'.out.inR
        obtain ⟨q0, q1, q2, q3, q4, q5, q6, q7, q8, q9, q10⟩ := blk11 hQ17
        have f3 := blk_free hQ17 3
        have hlt17 := heap_lt hQ17
        go_upto_region 11 with fail
        have hg18 : w17.grownBy (w17.setCell ⟨g5, 3, none⟩ (Value.slice Ao outs.length co)) (some g5) := gset w17 ⟨g5, 3, none⟩ (Value.slice Ao outs.length co)
        have hQ18 := blk_set hQ17 3 (Value.slice Ao outs.length co)
        have hB18 := blk_grown hB17 hg18 (by simp; omega)
        have hS18 := hS17.far hg18 (by simp; omega) (fun k e => by cases e; omega)
        have hr18 := hr17'.far hg18 hQ17 (by decide) (by decide) (by decide)
        clear q0 q1 q2 q3 q4 q5 q6 q7 q8 q9 q10 f3 hQ17 hB17 hS17 hr17' hg18 hlt17
        generalize w17.setCell ⟨g5, 3, none⟩ (Value.slice Ao outs.length co) = w18 at *
        obtain ⟨yo, hyo⟩ : ∃ yo, yo = (Value.slice Ao outs.length co) := ⟨_, rfl⟩
        rw [← hyo] at hQ18 hr18
        clear hyo
        go_wp2_with fail
        refine (rfList_any w w18 (w.heap.size + 1) _ b st17 7 (by omega) (by omega) hS18 (by omega)).mono ?_
        rintro e w20 ⟨z, l, st20, rfl, ho20, hS20, hI20, hl20, hok20, hg20⟩
        obtain ⟨pr, badr, hBR, _⟩ := id hS18.blk
        have hB20 := blk_grown hB18 hg20 (by simp)
        have hQ20 := blk_grown hQ18 hg20 (by simp; omega)
        have hr20 := hr18.far hg20 hBR (by decide) (by decide) (by decide)
        have HI20 := Lib.hid hI20
        have HO20 := Lib.hid hok20
        obtain ⟨Zl, czl, rfl, _, _⟩ := ho20.inV
        clear hI20 hok20 hBR hg20 hB18 hQ18 hr18 hS18
        obtain ⟨p6, bad6, hR6, hst6⟩ := id hS20.blk
        obtain ⟨r0, r1, r2, _, _, _⟩ := blk3 hR6
        have hE20 : Ext w w20 := hS20.ext
        cases bad6 with
        | true =>
          obtain rfl : st20 = none := hst6
          have HN : ¬ ∃ r : Rep, r.Enc b := stop7 HD3.out HI20.out (.inr (by simp))
          have hB22 := hB20
          have hE22 := hE20
          generalize w20 = W22 at *
          have hst := run_storeAt_blk (P := Try.prog) W22 w.heap.size 58 58 _ #[.int .i64 0, (.slice none 0 0), (.slice none 0 0), (.slice none 0 0), .int .i64 0, .int .i64 0, .int .i64 0, .int .i64 0, .int .i64 0, .int .i64 0, .int .i64 0] hB22 rep_size rfl (by simp [Value.oneCell'])
          go_wp2_with first | refine wpList_store_run rfl 58 (.tmp 2) (.tmp 64) rfl _ _ _ rfl rfl hst ?_
          have hB25 := setRow_heap W22 w.heap.size _ #[.int .i64 0, (.slice none 0 0), (.slice none 0 0), (.slice none 0 0), .int .i64 0, .int .i64 0, .int .i64 0, .int .i64 0, .int .i64 0, .int .i64 0, .int .i64 0] _ _ hB22
          have hg25 := gsetRow W22 w.heap.size #[.int .i64 0, (.slice none 0 0), (.slice none 0 0), (.slice none 0 0), .int .i64 0, .int .i64 0, .int .i64 0, .int .i64 0, .int .i64 0, .int .i64 0, .int .i64 0]
          have hE25 := hE22.grown hg25 (fun k e => by cases e; omega)
          generalize W22.setRow w.heap.size #[.int .i64 0, (.slice none 0 0), (.slice none 0 0), (.slice none 0 0), .int .i64 0, .int .i64 0, .int .i64 0, .int .i64 0, .int .i64 0, .int .i64 0, .int .i64 0] = W25 at *
          obtain ⟨e0, e1, e2, e3, e4, e5, e6, e7, e8, e9, e10⟩ := blk11 hB25
          refine bodyPost_ret (v := .tuple #[.agg #[.int .i64 0, (.slice none 0 0), (.slice none 0 0), (.slice none 0 0), .int .i64 0, .int .i64 0, .int .i64 0, .int .i64 0, .int .i64 0, .int .i64 0, .int .i64 0], .int .i64 4]) (by simp [results, Try.results37, go_sem, e0, e1, e2, e3, e4, e5, e6, e7, e8, e9, e10]) rfl ?_
          exact ⟨_, rep0, 4, rfl, .inr ⟨rfl, rfl, HN⟩, ⟨_, _, _, rfl, InV.nil _, ThrsAt.nil _, InR.nil _⟩, hE25⟩
        | false =>
        obtain rfl : st20 = some p6 := hst6
        by_cases hl7 : l.length = 7
        rotate_left
        · have e7 : ((l.length : Int) == 7) = false := by simp; omega
          have HN : ¬ ∃ r : Rep, r.Enc b := stop7 HD3.out HI20.out (.inl hl7)
          have hB22 := hB20
          have hE22 := hE20
          generalize w20 = W22 at *
          have hst := run_storeAt_blk (P := Try.prog) W22 w.heap.size 58 58 _ #[.int .i64 0, (.slice none 0 0), (.slice none 0 0), (.slice none 0 0), .int .i64 0, .int .i64 0, .int .i64 0, .int .i64 0, .int .i64 0, .int .i64 0, .int .i64 0] hB22 rep_size rfl (by simp [Value.oneCell'])
          go_wp2_with first | refine wpList_store_run rfl 58 (.tmp 2) (.tmp 64) rfl _ _ _ rfl rfl hst ?_
          have hB25 := setRow_heap W22 w.heap.size _ #[.int .i64 0, (.slice none 0 0), (.slice none 0 0), (.slice none 0 0), .int .i64 0, .int .i64 0, .int .i64 0, .int .i64 0, .int .i64 0, .int .i64 0, .int .i64 0] _ _ hB22
          have hg25 := gsetRow W22 w.heap.size #[.int .i64 0, (.slice none 0 0), (.slice none 0 0), (.slice none 0 0), .int .i64 0, .int .i64 0, .int .i64 0, .int .i64 0, .int .i64 0, .int .i64 0, .int .i64 0]
          have hE25 := hE22.grown hg25 (fun k e => by cases e; omega)
          generalize W22.setRow w.heap.size #[.int .i64 0, (.slice none 0 0), (.slice none 0 0), (.slice none 0 0), .int .i64 0, .int .i64 0, .int .i64 0, .int .i64 0, .int .i64 0, .int .i64 0, .int .i64 0] = W25 at *
          obtain ⟨e0, e1, e2, e3, e4, e5, e6, e7, e8, e9, e10⟩ := blk11 hB25
          refine bodyPost_ret (v := .tuple #[.agg #[.int .i64 0, (.slice none 0 0), (.slice none 0 0), (.slice none 0 0), .int .i64 0, .int .i64 0, .int .i64 0, .int .i64 0, .int .i64 0, .int .i64 0, .int .i64 0], .int .i64 4]) (by simp [results, Try.results37, go_sem, e0, e1, e2, e3, e4, e5, e6, e7, e8, e9, e10]) rfl ?_
          exact ⟨_, rep0, 4, rfl, .inr ⟨rfl, rfl, HN⟩, ⟨_, _, _, rfl, InV.nil _, ThrsAt.nil _, InR.nil _⟩, hE25⟩
        have e7 : ((l.length : Int) == 7) = true := by simp; omega
        by_cases hp : p6 = b.length
        rotate_left
        · have hp' : (p6 == (b.length : Int)) = false := by simp [hp]
          have HN : ¬ ∃ r : Rep, r.Enc b := stop7 HD3.out HI20.out (.inr (by simp [hp]))
          have hB22 := hB20
          have hE22 := hE20
          generalize w20 = W22 at *
          have hst := run_storeAt_blk (P := Try.prog) W22 w.heap.size 58 58 _ #[.int .i64 0, (.slice none 0 0), (.slice none 0 0), (.slice none 0 0), .int .i64 0, .int .i64 0, .int .i64 0, .int .i64 0, .int .i64 0, .int .i64 0, .int .i64 0] hB22 rep_size rfl (by simp [Value.oneCell'])
          go_wp2_with first | refine wpList_store_run rfl 58 (.tmp 2) (.tmp 64) rfl _ _ _ rfl rfl hst ?_
          have hB25 := setRow_heap W22 w.heap.size _ #[.int .i64 0, (.slice none 0 0), (.slice none 0 0), (.slice none 0 0), .int .i64 0, .int .i64 0, .int .i64 0, .int .i64 0, .int .i64 0, .int .i64 0, .int .i64 0] _ _ hB22
          have hg25 := gsetRow W22 w.heap.size #[.int .i64 0, (.slice none 0 0), (.slice none 0 0), (.slice none 0 0), .int .i64 0, .int .i64 0, .int .i64 0, .int .i64 0, .int .i64 0, .int .i64 0, .int .i64 0]
          have hE25 := hE22.grown hg25 (fun k e => by cases e; omega)
          generalize W22.setRow w.heap.size #[.int .i64 0, (.slice none 0 0), (.slice none 0 0), (.slice none 0 0), .int .i64 0, .int .i64 0, .int .i64 0, .int .i64 0, .int .i64 0, .int .i64 0, .int .i64 0] = W25 at *
          obtain ⟨e0, e1, e2, e3, e4, e5, e6, e7, e8, e9, e10⟩ := blk11 hB25
          refine bodyPost_ret (v := .tuple #[.agg #[.int .i64 0, (.slice none 0 0), (.slice none 0 0), (.slice none 0 0), .int .i64 0, .int .i64 0, .int .i64 0, .int .i64 0, .int .i64 0, .int .i64 0, .int .i64 0], .int .i64 4]) (by simp [results, Try.results37, go_sem, e0, e1, e2, e3, e4, e5, e6, e7, e8, e9, e10]) rfl ?_
          exact ⟨_, rep0, 4, rfl, .inr ⟨rfl, rfl, HN⟩, ⟨_, _, _, rfl, InV.nil _, ThrsAt.nil _, InR.nil _⟩, hE25⟩
        have hp' : (p6 == (b.length : Int)) = true := by simp [hp]
        have HKE : Hid (BackSt b _ (some (b.length : Int))) := Lib.hid (by rw [← hp]; exact HK4.out.list HI20.out)
        clear hp HK4
        obtain ⟨s0, s1, s2, s3, s4, s5, s6, rfl⟩ := list7 (by omega : (l.length : Int) = 7)
        obtain ⟨gs, cs, e, hgs, hgs2⟩ := ho20.form (by simp)
        injection e with e1 _ e2
        subst e1 e2
        simp only [List.length_cons, List.length_nil] at ho20 e7 ⊢
        go_wp2_with fail
        refine wp_region_X #[true, true, true, true, true, true, true, true, true, true, true, true, true, true, true, true, true, true, true, true, true, true, false, false] 22 2 (by kernel_rfl) rfl ?_
        refine wpX_vt 0 (.slice (some ⟨gs, 0, none⟩) 7 czl) rfl rfl (by kernel_rfl) (by kernel_rfl) (by kernel_rfl) (fun _ _ _ _ h => h) (by kernel_rfl) rfl (by rfl) (fun W' hW => by
          skip
          go_simp) ?_
        simp only [List.setIfInBounds_toArray, List.set_cons_zero, List.set_cons_succ]
        refine wpX_vt 1 (.pointer (some ⟨gs, 0, none⟩)) rfl rfl (by kernel_rfl) (by kernel_rfl) (by kernel_rfl) (fun _ _ _ _ h => h) (by kernel_rfl) rfl (by rfl) (fun W' hW => by
          skip
          go_simp) ?_
        simp only [List.setIfInBounds_toArray, List.set_cons_zero, List.set_cons_succ]
        refine wpX_vt 2 (.int .i64 s0) rfl rfl (by kernel_rfl) (by kernel_rfl) (by kernel_rfl) (fun _ _ _ _ h => h) (by kernel_rfl) rfl (by rfl) (fun W' hW => by
          obtain ⟨x0, _⟩ := (ho20.ext (((Ext.refl w20).drew).trans hW)).at_ rfl 0 (by simp)
          obtain ⟨x1, _⟩ := (ho20.ext (((Ext.refl w20).drew).trans hW)).at_ rfl 1 (by simp)
          obtain ⟨x2, _⟩ := (ho20.ext (((Ext.refl w20).drew).trans hW)).at_ rfl 2 (by simp)
          obtain ⟨x3, _⟩ := (ho20.ext (((Ext.refl w20).drew).trans hW)).at_ rfl 3 (by simp)
          obtain ⟨x4, _⟩ := (ho20.ext (((Ext.refl w20).drew).trans hW)).at_ rfl 4 (by simp)
          obtain ⟨x5, _⟩ := (ho20.ext (((Ext.refl w20).drew).trans hW)).at_ rfl 5 (by simp)
          obtain ⟨x6, _⟩ := (ho20.ext (((Ext.refl w20).drew).trans hW)).at_ rfl 6 (by simp)
          simp only [iv, List.getElem_cons_zero, List.getElem_cons_succ] at x0 x1 x2 x3 x4 x5 x6
          go_simp) ?_
        simp only [List.setIfInBounds_toArray, List.set_cons_zero, List.set_cons_succ]
        refine wpX_vt 3 (.slice (some ⟨gs, 0, none⟩) 7 czl) rfl rfl (by kernel_rfl) (by kernel_rfl) (by kernel_rfl) (fun _ _ _ _ h => h) (by kernel_rfl) rfl (by rfl) (fun W' hW => by
          skip
          go_simp) ?_
        simp only [List.setIfInBounds_toArray, List.set_cons_zero, List.set_cons_succ]
        refine wpX_vt 4 (.pointer (some ⟨gs, 1, none⟩)) rfl rfl (by kernel_rfl) (by kernel_rfl) (by kernel_rfl) (fun _ _ _ _ h => h) (by kernel_rfl) rfl (by rfl) (fun W' hW => by
          skip
          go_simp) ?_
        simp only [List.setIfInBounds_toArray, List.set_cons_zero, List.set_cons_succ]
        refine wpX_vt 5 (.int .i64 s1) rfl rfl (by kernel_rfl) (by kernel_rfl) (by kernel_rfl) (fun _ _ _ _ h => h) (by kernel_rfl) rfl (by rfl) (fun W' hW => by
          obtain ⟨x0, _⟩ := (ho20.ext (((Ext.refl w20).drew).trans hW)).at_ rfl 0 (by simp)
          obtain ⟨x1, _⟩ := (ho20.ext (((Ext.refl w20).drew).trans hW)).at_ rfl 1 (by simp)
          obtain ⟨x2, _⟩ := (ho20.ext (((Ext.refl w20).drew).trans hW)).at_ rfl 2 (by simp)
          obtain ⟨x3, _⟩ := (ho20.ext (((Ext.refl w20).drew).trans hW)).at_ rfl 3 (by simp)
          obtain ⟨x4, _⟩ := (ho20.ext (((Ext.refl w20).drew).trans hW)).at_ rfl 4 (by simp)
          obtain ⟨x5, _⟩ := (ho20.ext (((Ext.refl w20).drew).trans hW)).at_ rfl 5 (by simp)
          obtain ⟨x6, _⟩ := (ho20.ext (((Ext.refl w20).drew).trans hW)).at_ rfl 6 (by simp)
          simp only [iv, List.getElem_cons_zero, List.getElem_cons_succ] at x0 x1 x2 x3 x4 x5 x6
          go_simp) ?_
        simp only [List.setIfInBounds_toArray, List.set_cons_zero, List.set_cons_succ]
        refine wpX_vt 6 (.slice (some ⟨gs, 0, none⟩) 7 czl) rfl rfl (by kernel_rfl) (by kernel_rfl) (by kernel_rfl) (fun _ _ _ _ h => h) (by kernel_rfl) rfl (by rfl) (fun W' hW => by
          skip
          go_simp) ?_
        simp only [List.setIfInBounds_toArray, List.set_cons_zero, List.set_cons_succ]
        refine wpX_vt 7 (.pointer (some ⟨gs, 2, none⟩)) rfl rfl (by kernel_rfl) (by kernel_rfl) (by kernel_rfl) (fun _ _ _ _ h => h) (by kernel_rfl) rfl (by rfl) (fun W' hW => by
          skip
          go_simp) ?_
        simp only [List.setIfInBounds_toArray, List.set_cons_zero, List.set_cons_succ]
        refine wpX_vt 8 (.int .i64 s2) rfl rfl (by kernel_rfl) (by kernel_rfl) (by kernel_rfl) (fun _ _ _ _ h => h) (by kernel_rfl) rfl (by rfl) (fun W' hW => by
          obtain ⟨x0, _⟩ := (ho20.ext (((Ext.refl w20).drew).trans hW)).at_ rfl 0 (by simp)
          obtain ⟨x1, _⟩ := (ho20.ext (((Ext.refl w20).drew).trans hW)).at_ rfl 1 (by simp)
          obtain ⟨x2, _⟩ := (ho20.ext (((Ext.refl w20).drew).trans hW)).at_ rfl 2 (by simp)
          obtain ⟨x3, _⟩ := (ho20.ext (((Ext.refl w20).drew).trans hW)).at_ rfl 3 (by simp)
          obtain ⟨x4, _⟩ := (ho20.ext (((Ext.refl w20).drew).trans hW)).at_ rfl 4 (by simp)
          obtain ⟨x5, _⟩ := (ho20.ext (((Ext.refl w20).drew).trans hW)).at_ rfl 5 (by simp)
          obtain ⟨x6, _⟩ := (ho20.ext (((Ext.refl w20).drew).trans hW)).at_ rfl 6 (by simp)
          simp only [iv, List.getElem_cons_zero, List.getElem_cons_succ] at x0 x1 x2 x3 x4 x5 x6
          go_simp) ?_
        simp only [List.setIfInBounds_toArray, List.set_cons_zero, List.set_cons_succ]
        refine wpX_vt 9 (.slice (some ⟨gs, 0, none⟩) 7 czl) rfl rfl (by kernel_rfl) (by kernel_rfl) (by kernel_rfl) (fun _ _ _ _ h => h) (by kernel_rfl) rfl (by rfl) (fun W' hW => by
          skip
          go_simp) ?_
        simp only [List.setIfInBounds_toArray, List.set_cons_zero, List.set_cons_succ]
        refine wpX_vt 10 (.pointer (some ⟨gs, 3, none⟩)) rfl rfl (by kernel_rfl) (by kernel_rfl) (by kernel_rfl) (fun _ _ _ _ h => h) (by kernel_rfl) rfl (by rfl) (fun W' hW => by
          skip
          go_simp) ?_
        simp only [List.setIfInBounds_toArray, List.set_cons_zero, List.set_cons_succ]
        refine wpX_vt 11 (.int .i64 s3) rfl rfl (by kernel_rfl) (by kernel_rfl) (by kernel_rfl) (fun _ _ _ _ h => h) (by kernel_rfl) rfl (by rfl) (fun W' hW => by
          obtain ⟨x0, _⟩ := (ho20.ext (((Ext.refl w20).drew).trans hW)).at_ rfl 0 (by simp)
          obtain ⟨x1, _⟩ := (ho20.ext (((Ext.refl w20).drew).trans hW)).at_ rfl 1 (by simp)
          obtain ⟨x2, _⟩ := (ho20.ext (((Ext.refl w20).drew).trans hW)).at_ rfl 2 (by simp)
          obtain ⟨x3, _⟩ := (ho20.ext (((Ext.refl w20).drew).trans hW)).at_ rfl 3 (by simp)
          obtain ⟨x4, _⟩ := (ho20.ext (((Ext.refl w20).drew).trans hW)).at_ rfl 4 (by simp)
          obtain ⟨x5, _⟩ := (ho20.ext (((Ext.refl w20).drew).trans hW)).at_ rfl 5 (by simp)
          obtain ⟨x6, _⟩ := (ho20.ext (((Ext.refl w20).drew).trans hW)).at_ rfl 6 (by simp)
          simp only [iv, List.getElem_cons_zero, List.getElem_cons_succ] at x0 x1 x2 x3 x4 x5 x6
          go_simp) ?_
        simp only [List.setIfInBounds_toArray, List.set_cons_zero, List.set_cons_succ]
        refine wpX_vt 12 (.slice (some ⟨gs, 0, none⟩) 7 czl) rfl rfl (by kernel_rfl) (by kernel_rfl) (by kernel_rfl) (fun _ _ _ _ h => h) (by kernel_rfl) rfl (by rfl) (fun W' hW => by
          skip
          go_simp) ?_
        simp only [List.setIfInBounds_toArray, List.set_cons_zero, List.set_cons_succ]
        refine wpX_vt 13 (.pointer (some ⟨gs, 4, none⟩)) rfl rfl (by kernel_rfl) (by kernel_rfl) (by kernel_rfl) (fun _ _ _ _ h => h) (by kernel_rfl) rfl (by rfl) (fun W' hW => by
          skip
          go_simp) ?_
        simp only [List.setIfInBounds_toArray, List.set_cons_zero, List.set_cons_succ]
        refine wpX_vt 14 (.int .i64 s4) rfl rfl (by kernel_rfl) (by kernel_rfl) (by kernel_rfl) (fun _ _ _ _ h => h) (by kernel_rfl) rfl (by rfl) (fun W' hW => by
          obtain ⟨x0, _⟩ := (ho20.ext (((Ext.refl w20).drew).trans hW)).at_ rfl 0 (by simp)
          obtain ⟨x1, _⟩ := (ho20.ext (((Ext.refl w20).drew).trans hW)).at_ rfl 1 (by simp)
          obtain ⟨x2, _⟩ := (ho20.ext (((Ext.refl w20).drew).trans hW)).at_ rfl 2 (by simp)
          obtain ⟨x3, _⟩ := (ho20.ext (((Ext.refl w20).drew).trans hW)).at_ rfl 3 (by simp)
          obtain ⟨x4, _⟩ := (ho20.ext (((Ext.refl w20).drew).trans hW)).at_ rfl 4 (by simp)
          obtain ⟨x5, _⟩ := (ho20.ext (((Ext.refl w20).drew).trans hW)).at_ rfl 5 (by simp)
          obtain ⟨x6, _⟩ := (ho20.ext (((Ext.refl w20).drew).trans hW)).at_ rfl 6 (by simp)
          simp only [iv, List.getElem_cons_zero, List.getElem_cons_succ] at x0 x1 x2 x3 x4 x5 x6
          go_simp) ?_
        simp only [List.setIfInBounds_toArray, List.set_cons_zero, List.set_cons_succ]
        refine wpX_vt 15 (.slice (some ⟨gs, 0, none⟩) 7 czl) rfl rfl (by kernel_rfl) (by kernel_rfl) (by kernel_rfl) (fun _ _ _ _ h => h) (by kernel_rfl) rfl (by rfl) (fun W' hW => by
          skip
          go_simp) ?_
        simp only [List.setIfInBounds_toArray, List.set_cons_zero, List.set_cons_succ]
        refine wpX_vt 16 (.pointer (some ⟨gs, 5, none⟩)) rfl rfl (by kernel_rfl) (by kernel_rfl) (by kernel_rfl) (fun _ _ _ _ h => h) (by kernel_rfl) rfl (by rfl) (fun W' hW => by
          skip
          go_simp) ?_
        simp only [List.setIfInBounds_toArray, List.set_cons_zero, List.set_cons_succ]
        refine wpX_vt 17 (.int .i64 s5) rfl rfl (by kernel_rfl) (by kernel_rfl) (by kernel_rfl) (fun _ _ _ _ h => h) (by kernel_rfl) rfl (by rfl) (fun W' hW => by
          obtain ⟨x0, _⟩ := (ho20.ext (((Ext.refl w20).drew).trans hW)).at_ rfl 0 (by simp)
          obtain ⟨x1, _⟩ := (ho20.ext (((Ext.refl w20).drew).trans hW)).at_ rfl 1 (by simp)
          obtain ⟨x2, _⟩ := (ho20.ext (((Ext.refl w20).drew).trans hW)).at_ rfl 2 (by simp)
          obtain ⟨x3, _⟩ := (ho20.ext (((Ext.refl w20).drew).trans hW)).at_ rfl 3 (by simp)
          obtain ⟨x4, _⟩ := (ho20.ext (((Ext.refl w20).drew).trans hW)).at_ rfl 4 (by simp)
          obtain ⟨x5, _⟩ := (ho20.ext (((Ext.refl w20).drew).trans hW)).at_ rfl 5 (by simp)
          obtain ⟨x6, _⟩ := (ho20.ext (((Ext.refl w20).drew).trans hW)).at_ rfl 6 (by simp)
          simp only [iv, List.getElem_cons_zero, List.getElem_cons_succ] at x0 x1 x2 x3 x4 x5 x6
          go_simp) ?_
        simp only [List.setIfInBounds_toArray, List.set_cons_zero, List.set_cons_succ]
        refine wpX_vt 18 (.slice (some ⟨gs, 0, none⟩) 7 czl) rfl rfl (by kernel_rfl) (by kernel_rfl) (by kernel_rfl) (fun _ _ _ _ h => h) (by kernel_rfl) rfl (by rfl) (fun W' hW => by
          skip
          go_simp) ?_
        simp only [List.setIfInBounds_toArray, List.set_cons_zero, List.set_cons_succ]
        refine wpX_vt 19 (.pointer (some ⟨gs, 6, none⟩)) rfl rfl (by kernel_rfl) (by kernel_rfl) (by kernel_rfl) (fun _ _ _ _ h => h) (by kernel_rfl) rfl (by rfl) (fun W' hW => by
          skip
          go_simp) ?_
        simp only [List.setIfInBounds_toArray, List.set_cons_zero, List.set_cons_succ]
        refine wpX_vt 20 (.int .i64 s6) rfl rfl (by kernel_rfl) (by kernel_rfl) (by kernel_rfl) (fun _ _ _ _ h => h) (by kernel_rfl) rfl (by rfl) (fun W' hW => by
          obtain ⟨x0, _⟩ := (ho20.ext (((Ext.refl w20).drew).trans hW)).at_ rfl 0 (by simp)
          obtain ⟨x1, _⟩ := (ho20.ext (((Ext.refl w20).drew).trans hW)).at_ rfl 1 (by simp)
          obtain ⟨x2, _⟩ := (ho20.ext (((Ext.refl w20).drew).trans hW)).at_ rfl 2 (by simp)
          obtain ⟨x3, _⟩ := (ho20.ext (((Ext.refl w20).drew).trans hW)).at_ rfl 3 (by simp)
          obtain ⟨x4, _⟩ := (ho20.ext (((Ext.refl w20).drew).trans hW)).at_ rfl 4 (by simp)
          obtain ⟨x5, _⟩ := (ho20.ext (((Ext.refl w20).drew).trans hW)).at_ rfl 5 (by simp)
          obtain ⟨x6, _⟩ := (ho20.ext (((Ext.refl w20).drew).trans hW)).at_ rfl 6 (by simp)
          simp only [iv, List.getElem_cons_zero, List.getElem_cons_succ] at x0 x1 x2 x3 x4 x5 x6
          go_simp) ?_
        simp only [List.setIfInBounds_toArray, List.set_cons_zero, List.set_cons_succ]
        refine wpX_vt 21 (.agg #[.int .i64 s0, .int .i64 s1, .int .i64 s2, .int .i64 s3, .int .i64 s4, .int .i64 s5, .int .i64 s6]) rfl rfl (by kernel_rfl) (by kernel_rfl) (by kernel_rfl) (fun _ _ _ _ h => h) (by kernel_rfl) rfl (by rfl) (fun W' hW => by
          skip
          go_simp) ?_
        simp only [List.setIfInBounds_toArray, List.set_cons_zero, List.set_cons_succ]
        refine wpX_end rfl fun W21 hW21 => tail_seq 22 rfl (by kernel_rfl) ?_
        simp only [List.drop_succ_cons, List.drop_zero]
        have hX21 := ((Ext.refl w20).drew).trans hW21
        have hB21 := hX21.heap hB20
        have hQ21 := hX21.heap hQ20
        have hr21 := hr20.ext hX21
        have hE21 := hE20.trans hX21
        clear hS20 hB20 hQ20 hr20 ho20 hX21 hW21 hE20 r0 r1 r2 hR6
        obtain ⟨q0, q1, q2, q3, q4, q5, q6, q7, q8, q9, q10⟩ := blk11 hQ21
        obtain ⟨f0, f1, f2, f3, f4, f5, f6, f7, f8, f9, f10⟩ := blk11f hQ21
        have hlt21 := heap_lt hQ21
        go_wp2_with fail
        refine NoPanic.normal ?_
        obtain ⟨W22, hW22, hQ22, hg22⟩ := store7 hQ21 (.int .i64 s0) (.int .i64 s1) (.int .i64 s2) (.int .i64 s3) (.int .i64 s4) (.int .i64 s5) (.int .i64 s6)
        rw [hW22]
        clear hW22 q0 q1 q2 q3 q4 q5 q6 q7 q8 q9 q10 f0 f1 f2 f3 f4 f5 f6 f7 f8 f9 f10
        have hB22 := blk_grown hB21 hg22 (by simp; omega)
        have hr22 := hr21.far hg22 hQ21 (by decide) (by decide) (by decide)
        have hE22 : Ext w W22 := hE21.grown hg22 (fun k e => by cases e; omega)
        clear hB21 hQ21 hr21 hE21 hg22 hlt21
        obtain ⟨q, hq⟩ : ∃ q : Rep, q = ⟨err, words, us.map Prod.fst, outs, s0, s1, s2, s3, s4, s5, s6⟩ := ⟨_, rfl⟩
        have HQE : Hid (encR q = b) := Lib.hid (by
          have := HKE.out.whole
          rw [← HP2.out] at this
          refine Eq.trans ?_ this
          rw [hq]
          simp [encR, pre3, Rep.stop, List.append_assoc])
        have hri : ∀ W', RowsAt w.heap.size W' (Value.slice Aw words.length cw) yt yo words us outs → RepAt W' (.agg #[.int .i64 err, (Value.slice Aw words.length cw), yt, yo, .int .i64 s0, .int .i64 s1, .int .i64 s2, .int .i64 s3, .int .i64 s4, .int .i64 s5, .int .i64 s6]) q := fun W' h => ⟨_, _, _, by rw [hq], by rw [hq]; exact h.repIn err s0 s1 s2 s3 s4 s5 s6⟩
        have HRI := Lib.hid hri
        have HQO : Hid (q.Ok ∧ q.Fits ∧ ∀ t ∈ q.threads, t.regs.length = 16) := Lib.hid (by
          rw [hq]
          refine ⟨⟨HE.out, HOW.out, ?_, ?_, HO20.out⟩, ⟨by simp only; omega, by simp only; omega, by simp only [List.length_map]; omega, ?_⟩, ?_⟩
          · intro t ht
            obtain ⟨u, hu, rfl⟩ := List.mem_map.1 ht
            exact HT.out.ok u hu
          · intro x hx
            simp only [HP2.out] at hx
            exact HO17.out x (outP_mem out x hx)
          · intro t ht
            obtain ⟨u, hu, rfl⟩ := List.mem_map.1 ht
            exact HT.out.args u hu
          · intro t ht
            obtain ⟨u, hu, rfl⟩ := List.mem_map.1 ht
            exact hr22.regs u hu)
        clear hq hri HKE HP2 HO20 HO17 HT HOW HE HD3 HI20
        obtain ⟨Ay, cay, rfl, _, _⟩ := hr22.thr.inR
        obtain ⟨Ao2, co2, rfl, _, _⟩ := hr22.out.inR
        have hst := run_storeAt_blk (P := Try.prog) W22 w.heap.size 58 58 _ #[.int .i64 err, (Value.slice Aw words.length cw), .slice Ay us.length cay, .slice Ao2 outs.length co2, .int .i64 s0, .int .i64 s1, .int .i64 s2, .int .i64 s3, .int .i64 s4, .int .i64 s5, .int .i64 s6] hB22 rep_size rfl (by simp [Value.oneCell'])
        have hld := run_loadAt_blk (P := Try.prog) W22 g5 58 58 _ (0, 0) _ hQ22 Try.underlying58 rfl rep_size
        go_wp2_with first | refine wpList_load_run rfl 58 (.tmp 5) rfl _ _ rfl hld ?_ | refine wpList_store_run rfl 58 (.tmp 2) (.tmp 88) rfl _ _ _ rfl rfl hst ?_
        have hB25 := setRow_heap W22 w.heap.size _ #[.int .i64 err, (Value.slice Aw words.length cw), .slice Ay us.length cay, .slice Ao2 outs.length co2, .int .i64 s0, .int .i64 s1, .int .i64 s2, .int .i64 s3, .int .i64 s4, .int .i64 s5, .int .i64 s6] _ _ hB22
        have hg25 := gsetRow W22 w.heap.size #[.int .i64 err, (Value.slice Aw words.length cw), .slice Ay us.length cay, .slice Ao2 outs.length co2, .int .i64 s0, .int .i64 s1, .int .i64 s2, .int .i64 s3, .int .i64 s4, .int .i64 s5, .int .i64 s6]
        have hr25 := hr22.far hg25 hB22 (by decide) (by decide) (by decide)
        have hE25 := hE22.grown hg25 (fun k e => by cases e; omega)
        generalize W22.setRow w.heap.size #[.int .i64 err, (Value.slice Aw words.length cw), .slice Ay us.length cay, .slice Ao2 outs.length co2, .int .i64 s0, .int .i64 s1, .int .i64 s2, .int .i64 s3, .int .i64 s4, .int .i64 s5, .int .i64 s6] = W25 at *
        obtain ⟨e0, e1, e2, e3, e4, e5, e6, e7, e8, e9, e10⟩ := blk11 hB25
        refine bodyPost_ret (v := .tuple #[.agg #[.int .i64 err, (Value.slice Aw words.length cw), .slice Ay us.length cay, .slice Ao2 outs.length co2, .int .i64 s0, .int .i64 s1, .int .i64 s2, .int .i64 s3, .int .i64 s4, .int .i64 s5, .int .i64 s6], .int .i64 0]) (by simp [results, Try.results37, go_sem, e0, e1, e2, e3, e4, e5, e6, e7, e8, e9, e10]) rfl ?_
        exact ⟨_, q, 0, rfl, .inl ⟨rfl, HQO.out.1, HQO.out.2.1, HQO.out.2.2, HQE.out⟩, HRI.out _ hr25, hE25⟩
end Go.Proofs.Ytoeibcpjmoekpaa
