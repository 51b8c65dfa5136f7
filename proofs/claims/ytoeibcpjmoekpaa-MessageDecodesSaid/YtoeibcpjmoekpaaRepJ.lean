/- Replies: how the program decodes them: the walk. -/
import Derived.Test.YtoeibcpjmoekpaaRepI
namespace Go.Proofs.Ytoeibcpjmoekpaa
open Go.RowKit
set_option linter.unusedVariables false

/-- the last seven cells are stored -/
theorem store7 {W : World} {g : Nat} {z0 z1 z2 z3 z4 z5 z6 z7 z8 z9 z10 : Value} {t : TypeId} (h : W.heap[g]? = some (.cells #[z0, z1, z2, z3, z4, z5, z6, z7, z8, z9, z10] t (0, 0))) (a4 a5 a6 a7 a8 a9 a10 : Value) :
    ∃ W', (((((((W.setCell ⟨g, 4, none⟩ a4).setCell ⟨g, 5, none⟩ a5).setCell ⟨g, 6, none⟩ a6).setCell ⟨g, 7, none⟩ a7).setCell ⟨g, 8, none⟩ a8).setCell ⟨g, 9, none⟩ a9).setCell ⟨g, 10, none⟩ a10) = W' ∧ W'.heap[g]? = some (.cells #[z0, z1, z2, z3, a4, a5, a6, a7, a8, a9, a10] t (0, 0)) ∧ W.grownBy W' (some g) := by
  refine ⟨_, rfl, ?_, gset2 (gset2 (gset2 (gset2 (gset2 (gset2 (gset _ _ _) _ _) _ _) _ _) _ _) _ _) _ _⟩
  have h4 : (W.setCell ⟨g, 4, none⟩ a4).heap[g]? = some (.cells #[z0, z1, z2, z3, a4, z5, z6, z7, z8, z9, z10] t (0, 0)) := blk_set h 4 a4
  have h5 : ((W.setCell ⟨g, 4, none⟩ a4).setCell ⟨g, 5, none⟩ a5).heap[g]? = some (.cells #[z0, z1, z2, z3, a4, a5, z6, z7, z8, z9, z10] t (0, 0)) := blk_set h4 5 a5
  have h6 : (((W.setCell ⟨g, 4, none⟩ a4).setCell ⟨g, 5, none⟩ a5).setCell ⟨g, 6, none⟩ a6).heap[g]? = some (.cells #[z0, z1, z2, z3, a4, a5, a6, z7, z8, z9, z10] t (0, 0)) := blk_set h5 6 a6
  have h7 : ((((W.setCell ⟨g, 4, none⟩ a4).setCell ⟨g, 5, none⟩ a5).setCell ⟨g, 6, none⟩ a6).setCell ⟨g, 7, none⟩ a7).heap[g]? = some (.cells #[z0, z1, z2, z3, a4, a5, a6, a7, z8, z9, z10] t (0, 0)) := blk_set h6 7 a7
  have h8 : (((((W.setCell ⟨g, 4, none⟩ a4).setCell ⟨g, 5, none⟩ a5).setCell ⟨g, 6, none⟩ a6).setCell ⟨g, 7, none⟩ a7).setCell ⟨g, 8, none⟩ a8).heap[g]? = some (.cells #[z0, z1, z2, z3, a4, a5, a6, a7, a8, z9, z10] t (0, 0)) := blk_set h7 8 a8
  have h9 : ((((((W.setCell ⟨g, 4, none⟩ a4).setCell ⟨g, 5, none⟩ a5).setCell ⟨g, 6, none⟩ a6).setCell ⟨g, 7, none⟩ a7).setCell ⟨g, 8, none⟩ a8).setCell ⟨g, 9, none⟩ a9).heap[g]? = some (.cells #[z0, z1, z2, z3, a4, a5, a6, a7, a8, a9, z10] t (0, 0)) := blk_set h8 9 a9
  exact (blk_set h9 10 a10 : (((((((W.setCell ⟨g, 4, none⟩ a4).setCell ⟨g, 5, none⟩ a5).setCell ⟨g, 6, none⟩ a6).setCell ⟨g, 7, none⟩ a7).setCell ⟨g, 8, none⟩ a8).setCell ⟨g, 9, none⟩ a9).setCell ⟨g, 10, none⟩ a10).heap[g]? = some (.cells #[z0, z1, z2, z3, a4, a5, a6, a7, a8, a9, a10] t (0, 0)))
/-- where the walk stands while threads are read -/
structure Stage1 (w W : World) (g5 : Nat) (A : Option Addr) (c : Nat) (b : List UInt8) (err : Int) (yw yt : Value) (words : List Int) (us : List (Thr × Value)) (st : Option Int) : Prop where
  rs : RS 76 w W (w.heap.size + 1) (.slice A b.length c) b st
  res : W.heap[w.heap.size]? = some (.cells #[.int .i64 0, (.slice none 0 0), (.slice none 0 0), (.slice none 0 0), .int .i64 0, .int .i64 0, .int .i64 0, .int .i64 0, .int .i64 0, .int .i64 0, .int .i64 0] 58 (0, 0))
  rep : W.heap[g5]? = some (.cells #[.int .i64 err, yw, yt, (.slice none 0 0), .int .i64 0, .int .i64 0, .int .i64 0, .int .i64 0, .int .i64 0, .int .i64 0, .int .i64 0] 58 (0, 0))
  rows : RowsAt w.heap.size W yw yt (.slice none 0 0) words us []
/-- where the walk stands while pairs are made -/
structure Stage2 (w W : World) (g5 : Nat) (A : Option Addr) (c : Nat) (b : List UInt8) (err : Int) (yw yt yo : Value) (words : List Int) (us : List (Thr × Value)) (outs : List (Int × Int)) (st : Option Int) (zo : Value) (out : List Int) : Prop where
  rs : RS 76 w W (w.heap.size + 1) (.slice A b.length c) b st
  res : W.heap[w.heap.size]? = some (.cells #[.int .i64 0, (.slice none 0 0), (.slice none 0 0), (.slice none 0 0), .int .i64 0, .int .i64 0, .int .i64 0, .int .i64 0, .int .i64 0, .int .i64 0, .int .i64 0] 58 (0, 0))
  rep : W.heap[g5]? = some (.cells #[.int .i64 err, yw, yt, yo, .int .i64 0, .int .i64 0, .int .i64 0, .int .i64 0, .int .i64 0, .int .i64 0, .int .i64 0] 58 (0, 0))
  rows : RowsAt w.heap.size W yw yt yo words us outs
  num : OwnV iv 3 w.heap.size W zo out
structure ThrsOk (us : List (Thr × Value)) : Prop where
  ok : ∀ u ∈ us, u.1.Ok
  args : ∀ u ∈ us, u.1.args.length ≤ 4

set_option maxHeartbeats 4000000 in
set_option maxRecDepth 100000 in
theorem DecodeReply_any (y : Value) (b : List UInt8) (w : World) (hy : InB w y b) (hl : b.length ≤ 100000) :
    Calls Try.prog 34 #[y] w (DecRPost b w) := by
  obtain ⟨A, c, rfl, _, _⟩ := id hy
  go_enter Try.func34, Try.ntmps34
  go_upto_region 2 with fail
  obtain ⟨W, hW, hE, hB, hR⟩ : ∃ W, W = (w.alloc (.cells #[.int .i64 0, (.slice none 0 0), (.slice none 0 0), (.slice none 0 0), .int .i64 0, .int .i64 0, .int .i64 0, .int .i64 0, .int .i64 0, .int .i64 0, .int .i64 0] 58)).alloc (.cells #[.slice A b.length c, .int .i64 0, .bool false] 76) ∧ Ext w W ∧ W.heap[w.heap.size]? = some (.cells #[.int .i64 0, (.slice none 0 0), (.slice none 0 0), (.slice none 0 0), .int .i64 0, .int .i64 0, .int .i64 0, .int .i64 0, .int .i64 0, .int .i64 0, .int .i64 0] 58 (0, 0)) ∧ W.heap[w.heap.size + 1]? = some (.cells #[.slice A b.length c, .int .i64 0, .bool false] 76 (0, 0)) := ⟨_, rfl, ((Ext.refl w).alloc _).alloc _, ((Ext.refl _).alloc _).heap (heap_alloc_new w _), by have := heap_alloc_new (w.alloc (.cells #[.int .i64 0, (.slice none 0 0), (.slice none 0 0), (.slice none 0 0), .int .i64 0, .int .i64 0, .int .i64 0, .int .i64 0, .int .i64 0, .int .i64 0, .int .i64 0] 58)) (.cells #[.slice A b.length c, .int .i64 0, .bool false] 76); simpa using this⟩
  rw [← hW]
  clear hW
  have hS : RS 76 w W (w.heap.size + 1) (.slice A b.length c) b (some 0) := ⟨hy, hE, by omega, 0, false, hR, rfl⟩
  go_wp2_with fail
  refine (rdNumber_any w W (w.heap.size + 1) _ b (some 0) hS (by omega)).mono ?_
  rintro e w2 ⟨rfl, hS2, hg2⟩
  have hB2 := blk_grown hB hg2 (by simp)
  have hlt2 : w.heap.size + 1 < w2.heap.size := by
    obtain ⟨p, bad, h, _⟩ := hS2.blk
    exact World.block_lt_of_cell? _ _ (blk3 h).1
  clear hS hB hR hE hg2
  have HE := Lib.hid (numR_i64 b (some 0))
  have HD : Hid (∀ words st2, ListIs ((numR b (some 0)).2.bind (listR b 128)) words st2 → Dec1 b (numR b (some 0)).1 words [] (cntR b 8 st2).1.toNat (cntR b 8 st2).2) := Lib.hid fun _ _ h => Dec1.start h
  generalize (numR b (some 0)).1 = err at *
  generalize (numR b (some 0)).2 = st1 at *
  go_upto_region 3 with fail
  have hX3 := (Ext.refl w2).alloc (.cells #[.int .i64 err, (.slice none 0 0), (.slice none 0 0), (.slice none 0 0), .int .i64 0, .int .i64 0, .int .i64 0, .int .i64 0, .int .i64 0, .int .i64 0, .int .i64 0] 58)
  have hQ3 := heap_alloc_new w2 (.cells #[.int .i64 err, (.slice none 0 0), (.slice none 0 0), (.slice none 0 0), .int .i64 0, .int .i64 0, .int .i64 0, .int .i64 0, .int .i64 0, .int .i64 0, .int .i64 0] 58)
  have hB3 := hX3.heap hB2
  have hS3 := hS2.grow hX3
  clear hX3 hB2 hS2
  generalize w2.alloc (.cells #[.int .i64 err, (.slice none 0 0), (.slice none 0 0), (.slice none 0 0), .int .i64 0, .int .i64 0, .int .i64 0, .int .i64 0, .int .i64 0, .int .i64 0, .int .i64 0] 58) = w3 at *
  generalize w2.heap.size = g5 at *
  go_wp2_with fail
  refine (rdList_any w w3 (w.heap.size + 1) _ b st1 128 (by omega) (by omega) hS3 (by omega)).mono ?_
  rintro e w4 ⟨yw, words, st4, rfl, ho4, hS4, hI4, hl4, hok4, hg4⟩
  have HD1 := Lib.hid (HD.out _ _ hI4)
  clear hI4 HD
  have hB4 := blk_grown hB3 hg4 (by simp)
  have hQ4 := blk_grown hQ3 hg4 (by simp; omega)
  obtain ⟨Aw, cw, rfl, _, _⟩ := ho4.inV
  have ho4' := ho4.low (base' := w.heap.size) hS3.ext.size
  clear hB3 hQ3 hS3 hg4 ho4
  obtain ⟨q0, q1, q2, q3, q4, q5, q6, q7, q8, q9, q10⟩ := blk11 hQ4
  have f1 := blk_free hQ4 1
  have hlt4 := World.block_lt_of_cell? _ _ q0
  simp only at hlt4
  go_upto_region 4 with fail
  have hg5 : w4.grownBy (w4.setCell ⟨g5, 1, none⟩ (Value.slice Aw words.length cw)) (some g5) := gset w4 ⟨g5, 1, none⟩ (Value.slice Aw words.length cw)
  have hQ5 := blk_set hQ4 1 (Value.slice Aw words.length cw)
  have hB5 := blk_grown hB4 hg5 (by simp; omega)
  have hS5 := hS4.far hg5 (by simp; omega) (fun k e => by cases e; omega)
  have ho5 := ho4'.kept hg5 (.inr (ho4'.ne_blk hQ4 (by decide)))
  clear q0 q1 q2 q3 q4 q5 q6 q7 q8 q9 q10 f1 hQ4 hB4 hS4 ho4' hlt4 hg5
  generalize w4.setCell ⟨g5, 1, none⟩ (Value.slice Aw words.length cw) = w5 at *
  go_wp2_with fail
  refine (rdCount_any w w5 (w.heap.size + 1) _ b st4 8 hS5 (by omega)).mono ?_
  rintro e w6 ⟨rfl, hS6, hg6⟩
  have hr := cnt_range b 8 (by omega) st4
  generalize (cntR b 8 st4).2 = st6 at *
  generalize (cntR b 8 st4).1 = n at *
  obtain ⟨n, rfl⟩ := Int.eq_ofNat_of_zero_le hr.1
  rw [Int.toNat_natCast] at HD1
  have H0 : Stage1 w w6 g5 A c b err (Value.slice Aw words.length cw) (.slice none 0 0) words [] st6 := by
    obtain ⟨p, bad, h, _⟩ := hS5.blk
    exact ⟨hS6, blk_grown hB5 hg6 (by simp), blk_grown hQ5 hg6 (by simp; omega), ⟨ho5.kept hg6 (.inr (ho5.ne_blk h (by decide))), OwnR.nil _, by simp, by simp, OwnR.nil _⟩⟩
  have HOW := Lib.hid hok4
  clear hS6 hg6 hS5 hB5 hQ5 ho5 hok4
  go_wp2_with fail
  go_loopw [6] (fun i wr => ∃ (k : Nat) (st : Option Int) (yt : Value) (us : List (Thr × Value)), i = .int .i64 (k : Int) ∧ Stage1 w wr g5 A c b err (Value.slice Aw words.length cw) yt words us st ∧ Hid (Dec1 b err words (us.map Prod.fst) k st) ∧ Hid (ThrsOk us) ∧ us.length + k ≤ 8) (fun i _ => (intOf i).toNat)
  case atStart => exact ⟨n, st6, _, [], rfl, H0, HD1, Lib.hid ⟨by simp, by simp⟩, by simp; omega⟩
  case round =>
    clear H0 HD1
    obtain ⟨k, st, yt, us, rfl, hT, HD, HT, hle⟩ := hrel
    obtain ⟨wo, rfl⟩ : ∃ wo : World, wo = wr := ⟨_, rfl⟩
    obtain ⟨p, bad, hBR, hst⟩ := id hT.rs.blk
    obtain ⟨r0, r1, r2, _, _, _⟩ := blk3 hBR
    go_upto_region 5 with fail
    go_cut [33] from 25 to 64 (fun s wx => s = .bool (decide (0 < k) && !bad) ∧ wo = wx)
    case first =>
      rcases k with _ | k
      · go_wp2_with fail
        go_meet
        exact ⟨rfl, rfl⟩
      · have hk : (0 : Int) < ((k + 1 : Nat) : Int) := by omega
        cases bad with
        | true =>
          go_wp2_with fail
          go_meet
          exact ⟨rfl, rfl⟩
        | false =>
          go_wp2_with fail
          go_meet
          exact ⟨rfl, rfl⟩
    case rest =>
      obtain ⟨rfl, rfl⟩ := hcut
      clear r0 r1 r2
      cases hgo : (decide (0 < k) && !bad) with
      | true =>
        obtain ⟨hk0, rfl⟩ : 0 < k ∧ bad = false := by simpa using hgo
        clear hgo
        obtain ⟨k, rfl⟩ : ∃ j, k = j + 1 := ⟨k - 1, by omega⟩
        clear hk0 hst
        go_wp2_with fail
        refine (rdExactly_any w wo (w.heap.size + 1) _ b st 19 (by omega) hT.rs (by omega)).mono ?_
        rintro e w7 ⟨z, l, st7, rfl, ho7, hS7, hI7, hl7, hok7, hg7⟩
        have hl19 : l.length = 19 := by omega
        have hB7 := blk_grown hT.res hg7 (by simp)
        have hQ7 := blk_grown hT.rep hg7 (by simp; omega)
        have hr7 := hT.rows.far hg7 hBR (by decide) (by decide) (by decide)
        have HI7 := Lib.hid hI7
        have HO7 := Lib.hid hok7
        obtain ⟨gz, cz, rfl, hgz, hgzlt⟩ := ho7.form (by omega)
        have hcz : 19 ≤ cz := by obtain ⟨_, _, e, h, _⟩ := ho7.inV; cases e; omega
        simp only [hl19] at ho7 ⊢
        have hs7 := (World.grownBy.size hg7)
        have hlt7 := heap_lt hQ7
        have ho7' := ho7.low (base' := w.heap.size) hT.rs.ext.size
        clear hI7 hok7 hl7 hg7 hT hBR ho7
        obtain ⟨a0, a1, a2, regs, rfl, hregs⟩ := list3 hl19
        clear hl19
        go_wp2_with fail
        refine wp_region_X #[true, true, true, true, true, true, true, true, false] 8 1 (by kernel_rfl) rfl ?_
        refine wpX_f 7 (.cells #[.int .i64 0, .int .i64 0, .int .i64 0, .int .i64 0, .int .i64 0, .int .i64 0, .int .i64 0, .int .i64 0, .int .i64 0, .int .i64 0, .int .i64 0, .int .i64 0, .int .i64 0, .int .i64 0, .int .i64 0, .int .i64 0, .int .i64 0, .int .i64 0, .int .i64 0, .slice none 0 0] 91 (0, 0)) rfl rfl (by kernel_rfl) (by kernel_rfl) (by kernel_rfl) (fun _ _ _ _ h => h) rfl (fun a w => by go_simp) (w7.heap.size) (Nat.le_refl _) (by kernel_rfl) ?_
        refine wpX_v 0 (.slice (some ⟨gz, 0, none⟩) 19 cz) rfl rfl (by kernel_rfl) (by kernel_rfl) (by kernel_rfl) (fun _ _ _ _ h => h) (by kernel_rfl) rfl (by rfl) (fun W' hW => by
          skip
          go_simp) ?_
        simp only [List.setIfInBounds_toArray, List.set_cons_zero, List.set_cons_succ]
        refine wpX_v 1 (.pointer (some ⟨gz, 0, none⟩)) rfl rfl (by kernel_rfl) (by kernel_rfl) (by kernel_rfl) (fun _ _ _ _ h => h) (by kernel_rfl) rfl (by rfl) (fun W' hW => by
          skip
          go_simp) ?_
        simp only [List.setIfInBounds_toArray, List.set_cons_zero, List.set_cons_succ]
        refine wpX_v 2 (.int .i64 a0) rfl rfl (by kernel_rfl) (by kernel_rfl) (by kernel_rfl) (fun _ _ _ _ h => h) (by kernel_rfl) rfl (by rfl) (fun W' hW => by
          obtain ⟨x0, _⟩ := (ho7'.ext (((Ext.refl w7).drew).trans hW)).at_ (by simp; omega) 0 (by simp)
          obtain ⟨x1, _⟩ := (ho7'.ext (((Ext.refl w7).drew).trans hW)).at_ (by simp; omega) 1 (by simp)
          simp only [iv, List.getElem_cons_zero, List.getElem_cons_succ] at x0 x1
          go_simp) ?_
        simp only [List.setIfInBounds_toArray, List.set_cons_zero, List.set_cons_succ]
        refine wpX_v 3 (.slice (some ⟨gz, 0, none⟩) 19 cz) rfl rfl (by kernel_rfl) (by kernel_rfl) (by kernel_rfl) (fun _ _ _ _ h => h) (by kernel_rfl) rfl (by rfl) (fun W' hW => by
          skip
          go_simp) ?_
        simp only [List.setIfInBounds_toArray, List.set_cons_zero, List.set_cons_succ]
        refine wpX_v 4 (.pointer (some ⟨gz, 1, none⟩)) rfl rfl (by kernel_rfl) (by kernel_rfl) (by kernel_rfl) (fun _ _ _ _ h => h) (by kernel_rfl) rfl (by rfl) (fun W' hW => by
          skip
          go_simp) ?_
        simp only [List.setIfInBounds_toArray, List.set_cons_zero, List.set_cons_succ]
        refine wpX_v 5 (.int .i64 a1) rfl rfl (by kernel_rfl) (by kernel_rfl) (by kernel_rfl) (fun _ _ _ _ h => h) (by kernel_rfl) rfl (by rfl) (fun W' hW => by
          obtain ⟨x0, _⟩ := (ho7'.ext (((Ext.refl w7).drew).trans hW)).at_ (by simp; omega) 0 (by simp)
          obtain ⟨x1, _⟩ := (ho7'.ext (((Ext.refl w7).drew).trans hW)).at_ (by simp; omega) 1 (by simp)
          simp only [iv, List.getElem_cons_zero, List.getElem_cons_succ] at x0 x1
          go_simp) ?_
        simp only [List.setIfInBounds_toArray, List.set_cons_zero, List.set_cons_succ]
        refine wpX_v 6 (.agg #[.int .i64 a0, .int .i64 0, .int .i64 0, .int .i64 0, .int .i64 0, .int .i64 0, .int .i64 0, .int .i64 0, .int .i64 0, .int .i64 0, .int .i64 0, .int .i64 0, .int .i64 0, .int .i64 0, .int .i64 0, .int .i64 0, .int .i64 0, .int .i64 0, .int .i64 a1, .slice none 0 0]) rfl rfl (by kernel_rfl) (by kernel_rfl) (by kernel_rfl) (fun _ _ _ _ h => h) (by kernel_rfl) rfl (by rfl) (fun W' hW => by
          skip
          go_simp) ?_
        simp only [List.setIfInBounds_toArray, List.set_cons_zero, List.set_cons_succ]
        refine wpX_end rfl fun W8 hW8 => Land.mk fun gt hgt hC => tail_seq 8 rfl (by kernel_rfl) ?_
        simp only [List.drop_succ_cons, List.drop_zero, List.setIfInBounds_toArray, List.set_cons_zero, List.set_cons_succ]
        have hX8 := ((Ext.refl w7).drew).trans hW8
        have hst := run_storeAt_blk (P := Try.prog) W8 gt 91 91 _ #[.int .i64 a0, .int .i64 0, .int .i64 0, .int .i64 0, .int .i64 0, .int .i64 0, .int .i64 0, .int .i64 0, .int .i64 0, .int .i64 0, .int .i64 0, .int .i64 0, .int .i64 0, .int .i64 0, .int .i64 0, .int .i64 0, .int .i64 0, .int .i64 0, .int .i64 a1, .slice none 0 0] hC thr_size rfl (by simp [Value.oneCell'])
        go_wp2_with first | refine wpList_store_run rfl 91 (.tmp 8) (.tmp 44) rfl _ _ _ rfl rfl hst ?_
        refine NoPanic.normal ?_
        have hK8 : ThrBlk (W8.setRow gt #[.int .i64 a0, .int .i64 0, .int .i64 0, .int .i64 0, .int .i64 0, .int .i64 0, .int .i64 0, .int .i64 0, .int .i64 0, .int .i64 0, .int .i64 0, .int .i64 0, .int .i64 0, .int .i64 0, .int .i64 0, .int .i64 0, .int .i64 0, .int .i64 0, .int .i64 a1, .slice none 0 0]) gt ⟨a0, List.replicate 16 0, 0, a1, []⟩ (.slice none 0 0) := setRow_heap W8 gt _ _ _ _ hC
        have hg8 := gsetRow W8 gt #[.int .i64 a0, .int .i64 0, .int .i64 0, .int .i64 0, .int .i64 0, .int .i64 0, .int .i64 0, .int .i64 0, .int .i64 0, .int .i64 0, .int .i64 0, .int .i64 0, .int .i64 0, .int .i64 0, .int .i64 0, .int .i64 0, .int .i64 0, .int .i64 0, .int .i64 a1, .slice none 0 0]
        have hS8 := (hS7.grow hX8).far hg8 (by simp; omega) (fun k e => by cases e; omega)
        have hB8 := blk_grown (hX8.heap hB7) hg8 (by simp; omega)
        have hQ8 := blk_grown (hX8.heap hQ7) hg8 (by simp; omega)
        have hne8 : yt.ownBlock ≠ some gt := fun e => by have := hr7.thr.lt _ e; omega
        have hr8 := (hr7.ext hX8).farT hg8 hC hne8
        have ho8 := (ho7'.ext hX8).kept hg8 (.inr ((ho7'.ext hX8).ne_blk hC (by decide)))
        clear hst hS7 hB7 hQ7 hr7 ho7' hg8 hC hX8 hW8
        generalize W8.setRow gt #[.int .i64 a0, .int .i64 0, .int .i64 0, .int .i64 0, .int .i64 0, .int .i64 0, .int .i64 0, .int .i64 0, .int .i64 0, .int .i64 0, .int .i64 0, .int .i64 0, .int .i64 0, .int .i64 0, .int .i64 0, .int .i64 0, .int .i64 0, .int .i64 0, .int .i64 a1, .slice none 0 0] = w8 at *
        obtain ⟨⟨k17, _⟩, fz17, _⟩ := hK8.cells (by simp)
        obtain ⟨x2, _⟩ := ho8.at_ (by simp; omega) 2 (by simp)
        simp only [iv, List.getElem_cons_zero, List.getElem_cons_succ] at x2
        have hltgt := World.block_lt_of_cell? _ _ k17
        simp only at hltgt
        go_upto_region 10 with fail
        have hg9 : w8.grownBy (w8.setCell ⟨gt, 17, none⟩ (.int .i64 a2)) (some gt) := gset w8 ⟨gt, 17, none⟩ (.int .i64 a2)
        have hK9 := hK8.setPc (by simp) a2
        have hS9 := hS8.far hg9 (by simp; omega) (fun k e => by cases e; omega)
        have hB9 := blk_grown hB8 hg9 (by simp; omega)
        have hQ9 := blk_grown hQ8 hg9 (by simp; omega)
        have hr9 := hr8.farT hg9 hK8 hne8
        have ho9 := ho8.kept hg9 (.inr (ho8.ne_blk hK8 (by decide)))
        clear hS8 hB8 hQ8 hr8 ho8 hg9 hK8 k17 fz17 x2 hltgt
        generalize w8.setCell ⟨gt, 17, none⟩ (.int .i64 a2) = w9 at *
        simp only at hK9
        obtain ⟨i0, hi0, _, hi1, _⟩ := info_parts int_info
        have hsl : ∀ W, (Instr.slice 26 (.slice (some ⟨gz, 0, none⟩) 19 cz) (some (.int .i64 3)) none none).run Try.prog W = .ok (.slice (some ⟨gz, 3, none⟩) 16 (cz - 3)) W := fun W => by
          have := run_slice_l Try.underlying26 hi0 (some ⟨gz, 0, none⟩) 19 cz 3 (by omega) W
          rw [hi1, if_neg (by omega)] at this
          exact this
        refine wp_region_X #[true, true, true, true, true, false] 5 1 (by kernel_rfl) rfl ?_
        refine wpX_vt 0 (.pointer (some ⟨gt, 1, none⟩)) rfl rfl (by kernel_rfl) (by kernel_rfl) (by kernel_rfl) (fun _ _ _ _ h => h) (by kernel_rfl) rfl (by rfl) (fun W' hW => by
          skip
          go_simp) ?_
        simp only [List.setIfInBounds_toArray, List.set_cons_zero, List.set_cons_succ]
        refine wpX_vt 1 (.pointer (some ⟨gt, 1, none⟩)) rfl rfl (by kernel_rfl) (by kernel_rfl) (by kernel_rfl) (fun _ _ _ _ h => h) (by kernel_rfl) rfl (by rfl) (fun W' hW => by
          skip
          go_simp) ?_
        simp only [List.setIfInBounds_toArray, List.set_cons_zero, List.set_cons_succ]
        refine wpX_vt 2 (.slice (some ⟨gt, 1, none⟩) 16 16) rfl rfl (by kernel_rfl) (by kernel_rfl) (by kernel_rfl) (fun _ _ _ _ h => h) (by kernel_rfl) rfl (by rfl) (fun W' hW => by
          skip
          go_simp) ?_
        simp only [List.setIfInBounds_toArray, List.set_cons_zero, List.set_cons_succ]
        refine wpX_vt 3 (.slice (some ⟨gz, 0, none⟩) 19 cz) rfl rfl (by kernel_rfl) (by kernel_rfl) (by kernel_rfl) (fun _ _ _ _ h => h) (by kernel_rfl) rfl (by rfl) (fun W' hW => by
          skip
          go_simp) ?_
        simp only [List.setIfInBounds_toArray, List.set_cons_zero, List.set_cons_succ]
        refine wpX_vt 4 (.slice (some ⟨gz, 3, none⟩) 16 (cz - 3)) rfl rfl (by kernel_rfl) (by kernel_rfl) (by kernel_rfl) (fun _ _ _ _ h => h) (by kernel_rfl) rfl (by rfl) (fun W' hW => by
          skip
          go_simp) ?_
        simp only [List.setIfInBounds_toArray, List.set_cons_zero, List.set_cons_succ]
        refine wpX_end rfl fun W10 hW10 => tail_seq 5 rfl (by kernel_rfl) ?_
        simp only [List.drop_succ_cons, List.drop_zero]
        have hX10 := ((Ext.refl w9).drew).trans hW10
        have hK10 : ThrBlk W10 gt ⟨a0, List.replicate 16 0, a2, a1, []⟩ (.slice none 0 0) := hX10.heap hK9
        have ho10 := ho9.ext hX10
        have hcp := run_copy_cells (P := Try.prog) W10 26 26 3 3 gt 1 16 16 ⟨gz, 3, none⟩ 16 (cz - 3) (regs.map iv) Try.underlying26 (by rw [hi0]; simp [hi1]) (by simp [hregs])
          (fun j v hv => by
            obtain ⟨_, _, e, _, hrd⟩ := ho10.inV
            injection e with e1
            rw [← e1] at hrd
            obtain ⟨ad, e2, hc⟩ := hrd.drop 3 j v hv
            cases e2
            exact hc)
          (fun j hj => by
            have hj' : j < 16 := by simpa [hregs] using hj
            have hlen := thr_len (z := ((⟨a0, List.replicate 16 0, a2, a1, []⟩ : Thr), (.slice none 0 0))) (by simp)
            rw [blk_at hK10 (1 + j) _ (by rw [List.getElem?_toArray, List.getElem?_eq_getElem (by omega)])]
            rfl)
          (fun j _ => blk_free hK10 _) (fun v hv => by
            obtain ⟨x, _, rfl⟩ := List.mem_map.1 hv
            rfl)
        go_wp2_with (at_builtin; go_must (refine Lib.wpList_copy_run _ rfl (.tmp 52) (.tmp 54) 26 26 rfl _ _ rfl rfl hcp ?_))
        refine NoPanic.normal ?_
        obtain ⟨hK11, hg11⟩ := hK10.setRegs (by simp) regs hregs
        have hS11 := (hS9.grow hX10).far hg11 (by simp; omega) (fun k e => by cases e; omega)
        have hB11 := blk_grown (hX10.heap hB9) hg11 (by simp; omega)
        have hQ11 := blk_grown (hX10.heap hQ9) hg11 (by simp; omega)
        have hr11 := (hr9.ext hX10).farT hg11 hK10 hne8
        simp only at hK11
        clear hcp hsl hi0 hi1 hK10 hK9 ho10 ho9 hS9 hB9 hQ9 hr9 hg11 hX10 hW10
        generalize W10.setCells gt 1 (regs.map iv) = w11 at *
        go_wp2_with fail
        refine (rdList_any w w11 (w.heap.size + 1) _ b st7 4 (by omega) (by omega) hS11 (by omega)).mono ?_
        rintro e w12 ⟨z12, args, st12, rfl, ho12, hS12, hI12, hl12, hok12, hg12⟩
        obtain ⟨Az, caz, rfl, _, _⟩ := ho12.inV
        have HI12 := Lib.hid hI12
        have HO12 := Lib.hid hok12
        obtain ⟨p, bad, hBR, hst⟩ := id hS11.blk
        have hK12 : ThrBlk w12 gt ⟨a0, regs, a2, a1, []⟩ (.slice none 0 0) := blk_grown hK11 hg12 (by simp; omega)
        have hB12 := blk_grown hB11 hg12 (by simp)
        have hQ12 := blk_grown hQ11 hg12 (by simp; omega)
        have hr12 := hr11.far hg12 hBR (by decide) (by decide) (by decide)
        have ho12' := ho12.low (base' := w.heap.size) hS11.ext.size
        obtain ⟨⟨_, k19⟩, _, fz19⟩ := hK12.cells hregs
        have hltgt := World.block_lt_of_cell? _ _ k19
        simp only at hltgt
        clear hI12 hok12 hg12 hK11 hB11 hQ11 hr11 hBR hst ho12 hS11
        go_upto_region 12 with fail
        have hg13 : w12.grownBy (w12.setCell ⟨gt, 19, none⟩ (Value.slice Az args.length caz)) (some gt) := gset w12 ⟨gt, 19, none⟩ (Value.slice Az args.length caz)
        have hK13 := hK12.setArgs hregs (Value.slice Az args.length caz) args
        have hS13 := hS12.far hg13 (by simp; omega) (fun k e => by cases e; omega)
        have hB13 := blk_grown hB12 hg13 (by simp; omega)
        have hQ13 := blk_grown hQ12 hg13 (by simp; omega)
        have hr13 := hr12.farT hg13 hK12 hne8
        have ho13 := ho12'.kept hg13 (.inr (ho12'.ne_blk hK12 (by decide)))
        clear hS12 hB12 hQ12 hr12 hK12 hg13 ho12' k19 fz19 hltgt
        generalize w12.setCell ⟨gt, 19, none⟩ (Value.slice Az args.length caz) = w13 at *
        simp only at hK13
        obtain ⟨t, ht⟩ : ∃ t : Thr, t = ⟨a0, regs, a2, a1, args⟩ := ⟨_, rfl⟩
        rw [← ht] at hK13
        have hreg : t.regs.length = 16 := by rw [ht]; exact hregs
        have hat : OwnV iv 3 w.heap.size w13 (Value.slice Az args.length caz) t.args := by rw [ht]; exact ho13
        have HTE : Hid (t = thrOf (a0 :: a1 :: a2 :: regs) args) := Lib.hid ht
        obtain ⟨cs, hcs⟩ : ∃ cs, cs = (thrCells (t, (Value.slice Az args.length caz))).toArray := ⟨_, rfl⟩
        have hcl : cs.size = 20 := by rw [hcs, List.size_toArray]; exact thr_len (z := (t, _)) hreg
        unfold ThrBlk at hK13
        rw [← hcs] at hK13
        have hld := run_loadAt_blk (P := Try.prog) w13 gt 91 91 cs (0, 0) _ hK13 Try.underlying91 rfl (by rw [hcl]; exact thr_size)
        have hin : InR thrCells (w13.alloc (.cells cs 91)) (.slice (some ⟨w13.heap.size, 0, none⟩) 1 1) [(t, (Value.slice Az args.length caz))] := by rw [hcs]; exact (OwnR_one w13 (t, _) (thr_len (z := (t, _)) hreg) 91).inR
        have hX14 := (Ext.refl w13).alloc (.cells cs 91)
        have hti : ThrIn w13 (t, (Value.slice Az args.length caz)) := ⟨hreg, hat.inV⟩
        have hsz := hS13.ext.size
        have hsz2 := hX14.size
        clear ht hcs ho13
        obtain ⟨q0, q1, q2, q3, q4, q5, q6, q7, q8, q9, q10⟩ := blk11 hQ13
        go_wp2_with first | refine wpList_load_run rfl 91 (.tmp 8) rfl _ _ rfl hld ?_ | refine wpList_rowOne elem_thr rfl (.tmp 61) rfl cs rfl hcl (by omega) ?_ | (at_builtin; go_must (refine wpList_appendR elem_thr rfl (.tmp 60) (.tmp 62) rfl w.heap.size yt us rfl (hr13.thr.ext hX14) _ [(t, (Value.slice Az args.length caz))] rfl hin (fun a ha => by simp only [List.mem_singleton] at ha; subst ha; exact thr_len (z := (t, _)) hreg) (fun a ha => by simp only [List.mem_singleton] at ha; subst ha; exact hti.one) (by simp; omega) (by omega) (by omega) (Hold.out ?_)))
        refine Hold.mk fun v15 w15 ho15 hg15 => ?_
        obtain ⟨A15, c15, hv15, _, _⟩ := ho15.inR
        rw [List.length_append, List.length_singleton] at hv15
        subst hv15
        have hr15 := (hr13.ext hX14).addT hg15 ho15 hreg (hat.ext hX14)
        obtain ⟨pr, badr, hBR, _⟩ := id hS13.blk
        have hS15 := (hS13.grow hX14).far hg15.grown (hr13.thr.ne_blk hBR (by decide)).symm hr13.thr.ge
        have hB15 := blk_grown (hX14.heap hB13) hg15.grown (hr13.thr.ne_blk hB13 (by decide)).symm
        have hQ15 := blk_grown (hX14.heap hQ13) hg15.grown (hr13.thr.ne_blk hQ13 (by decide)).symm
        clear q0 q1 q2 q3 q4 q5 q6 q7 q8 q9 q10 hld hin hX14 hti hsz hsz2 hS13 hB13 hQ13 hr13 hg15 ho15 hBR hK13 hne8
        obtain ⟨q0, q1, q2, q3, q4, q5, q6, q7, q8, q9, q10⟩ := blk11 hQ15
        have f2 := blk_free hQ15 2
        have hlt15 := heap_lt hQ15
        go_upto_region 6 with fail
        have hg16 : w15.grownBy (w15.setCell ⟨g5, 2, none⟩ (Value.slice A15 (us.length + 1) c15)) (some g5) := gset w15 ⟨g5, 2, none⟩ (Value.slice A15 (us.length + 1) c15)
        have hQ16 := blk_set hQ15 2 (Value.slice A15 (us.length + 1) c15)
        have hB16 := blk_grown hB15 hg16 (by simp; omega)
        have hS16 := hS15.far hg16 (by simp; omega) (fun k e => by cases e; omega)
        have hr16 := hr15.far hg16 hQ15 (by decide) (by decide) (by decide)
        clear q0 q1 q2 q3 q4 q5 q6 q7 q8 q9 q10 f2 hQ15 hB15 hS15 hr15 hg16 hlt15
        generalize w15.setCell ⟨g5, 2, none⟩ (Value.slice A15 (us.length + 1) c15) = w16 at *
        have H16 : Stage1 w w16 g5 A c b err (Value.slice Aw words.length cw) (Value.slice A15 (us.length + 1) c15) words (us ++ [(t, (Value.slice Az args.length caz))]) st12 := ⟨hS16, hB16, hQ16, hr16⟩
        have HD16 : Hid (Dec1 b err words ((us ++ [(t, (Value.slice Az args.length caz))]).map Prod.fst) k st12) := Lib.hid (by
          have := HD.out.step HI7.out HI12.out
          rw [List.map_append, List.map_cons, List.map_nil, HTE.out]
          exact this)
        have HT16 : Hid (ThrsOk (us ++ [(t, (Value.slice Az args.length caz))])) := Lib.hid (by
          obtain ⟨ok1, _⟩ := thrOf_ok (l := a0 :: a1 :: a2 :: regs) (args := args) (by simp [hregs]) HO7.out HO12.out
          have e1 : t.args = args := by rw [HTE.out]; rfl
          refine ⟨fun u hu => ?_, fun u hu => ?_⟩
          · rcases List.mem_append.1 hu with hu | hu
            · exact HT.out.ok u hu
            · simp only [List.mem_singleton] at hu; subst hu; rw [HTE.out]; exact ok1
          · rcases List.mem_append.1 hu with hu | hu
            · exact HT.out.args u hu
            · simp only [List.mem_singleton] at hu; subst hu; rw [e1]; omega)
        clear hS16 hB16 hQ16 hr16
        go_wp2_with fail
        go_roundw
        case rel => exact ⟨k, st12, _, _, by go_num, H16, HD16, HT16, by simp; omega⟩
        case measure => simp [intOf]
      | false =>
        have HD2 : Hid (Dec2 b err words (us.map Prod.fst) st) := Lib.hid (by
          rcases Nat.eq_zero_or_pos k with rfl | hk
          · exact HD.out.done
          · have hb : bad = true := by simpa [hk] using hgo
            subst hb
            rw [hst] at HD
            exact Dec2.of_none HD.out.none)
        clear hgo HD hst
        go_wp2_with fail
        refine (rdList_any w wo (w.heap.size + 1) _ b st 256 (by omega) (by omega) hT.rs (by omega)).mono ?_
        rintro e w17 ⟨zo, out, st17, rfl, ho17, hS17, hI17, hl17, hok17, hg17⟩
        have HD3 := Lib.hid (HD2.out.out hI17)
        have HO17 := Lib.hid hok17
        have hB17 := blk_grown hT.res hg17 (by simp)
        have hQ17 := blk_grown hT.rep hg17 (by simp; omega)
        have hr17 := hT.rows.far hg17 hBR (by decide) (by decide) (by decide)
        have ho17' := ho17.low (base' := w.heap.size) hT.rs.ext.size
        clear hI17 hok17 HD2 hT hBR hg17 ho17
        obtain ⟨Ao, co, rfl, _, _⟩ := ho17'.inV
        go_upto_if 70 with fail
        go_cut [70] from 67 to 73 (fun s wx => ∃ st18, Stage2 w wx g5 A c b err (Value.slice Aw words.length cw) yt (.slice none 0 0) words us [] st18 (Value.slice Ao out.length co) out ∧ Hid (Dec3 b err words (us.map Prod.fst) out st18))
        case first =>
          by_cases hodd : out.length % 2 = 0
          · have e70 : ((out.length : Int) % 2 != 0) = false := by simp; omega
            go_wp2_with fail
            go_meet
            exact ⟨st17, ⟨hS17, hB17, hQ17, hr17, ho17'⟩, HD3⟩
          · have e70 : ((out.length : Int) % 2 != 0) = true := by simp; omega
            obtain ⟨p17, bad17, hBR, hst17⟩ := id hS17.blk
            obtain ⟨r0, r1, r2, _, _, fr2⟩ := blk3 hBR
            have hltr := heap_lt hBR
            go_wp2_with fail
            go_meet
            have hg18 : w17.grownBy (w17.setCell ⟨w.heap.size + 1, 2, none⟩ (.bool true)) (some (w.heap.size + 1)) := gset w17 ⟨w.heap.size + 1, 2, none⟩ (.bool true)
            have hS18 := hS17.put (p := p17) (bad := true) hg18 (blk_set hBR 2 _)
            exact ⟨none, ⟨hS18, blk_grown hB17 hg18 (by simp), blk_grown hQ17 hg18 (by simp; omega), hr17.far hg18 hBR (by decide) (by decide) (by decide), ho17'.kept hg18 (.inr (ho17'.ne_blk hBR (by decide)))⟩, Lib.hid (Dec3.of_none (HD3.out.odd hodd))⟩
        case rest =>
          obtain ⟨st18, hT, HD⟩ := hcut
          clear hS17 hB17 hQ17 hr17 ho17' HD3
          go_wp2_with fail
          go_loopw [10] (fun i wr => ∃ (j : Nat) (yo : Value) (outs : List (Int × Int)), i = .int .i64 (j : Int) ∧ j % 2 = 0 ∧ j ≤ out.length ∧ Stage2 w wr g5 A c b err (Value.slice Aw words.length cw) yt yo words us outs st18 (Value.slice Ao out.length co) out ∧ Hid (outs = outP (out.take j)) ∧ outs.length ≤ 128) (fun i _ => out.length + 2 - (intOf i).toNat)
          case atStart => exact ⟨0, _, [], rfl, rfl, by omega, hT, Lib.hid (by simp [outP]), by simp⟩
          case round =>
            clear hT
            obtain ⟨j, yo, outs, rfl, hev, hjl, hT, HP, hlo⟩ := hrel
            obtain ⟨wp, rfl⟩ : ∃ wp : World, wp = wr := ⟨_, rfl⟩
            by_cases hj : j + 1 < out.length
            · have hj1 : (j : Int) + 1 < (out.length : Int) := by omega
              have hj0 : (j : Int) < (out.length : Int) := by omega
              have hj2 : ¬ (j : Int) + 1 < 0 := by omega
              have hwr : IntKind.i64.wrap ((j : Int) + 1) = (j : Int) + 1 := by rw [IntKind.wrap_i64]; omega
              have HP2 := Lib.hid (outP_take hev hj)
              have hol := Lib.hid (outP_len (out.take (j + 2)))
              obtain ⟨go, co', eo, _, hgo⟩ := hT.num.form (by omega)
              injection eo with eo1 _ eo2
              subst eo1 eo2
              have HX : ∀ W, wp.grownBy W yo.ownBlock → W.cell? ⟨go, j, none⟩ = some (.int .i64 out[j]) ∧ W.cell? ⟨go, j + 1, none⟩ = some (.int .i64 out[j + 1]) ∧ W.cell? ⟨g5, 3, none⟩ = some yo := fun W hW => by
                have h1 := hT.num.kept hW (row_ne hT.num hT.rows.out (by decide))
                have h2 := blk_grown hT.rep hW (hT.rows.out.ne_blk hT.rep (by decide)).symm
                exact ⟨(h1.at_ rfl j (by omega)).1, (h1.at_ rfl (j + 1) hj).1, blk_at h2 3 _ rfl⟩
              have hnum := hT.num
              generalize out[j] = x0 at *
              generalize out[j + 1] = x1 at *
              go_wp2_with fail
              refine wp_region_Z #[true, true, true, true, true, true, true, true, true, true, true, true, true, true, false, false] yo.ownBlock 14 2 (by kernel_rfl) rfl ?_
              refine wpZ_v 0 (.pointer (some ⟨g5, 3, none⟩)) rfl rfl (by kernel_rfl) (by kernel_rfl) (by kernel_rfl) (fun _ _ _ _ h => h) (by kernel_rfl) rfl (by rfl) (fun W' hW => by
                skip
                go_simp) ?_
              simp only [List.setIfInBounds_toArray, List.set_cons_zero, List.set_cons_succ]
              refine wpZ_v 1 (yo) rfl rfl (by kernel_rfl) (by kernel_rfl) (by kernel_rfl) (fun _ _ _ _ h => h) (by kernel_rfl) rfl (by rfl) (fun W' hW => by
                obtain ⟨x0c, x1c, yc⟩ := HX W' (gtrans (((Ext.refl wp).drew).grownBy _) hW)
                go_simp) ?_
              simp only [List.setIfInBounds_toArray, List.set_cons_zero, List.set_cons_succ]
              refine wpZ_v 2 ((Value.slice (some ⟨go, 0, none⟩) out.length co)) rfl rfl (by kernel_rfl) (by kernel_rfl) (by kernel_rfl) (fun _ _ _ _ h => h) (by kernel_rfl) rfl (by rfl) (fun W' hW => by
                skip
                go_simp) ?_
              simp only [List.setIfInBounds_toArray, List.set_cons_zero, List.set_cons_succ]
              refine wpZ_v 3 (.int .i64 (j : Int)) rfl rfl (by kernel_rfl) (by kernel_rfl) (by kernel_rfl) (fun _ _ _ _ h => h) (by kernel_rfl) rfl (by rfl) (fun W' hW => by
                skip
                go_simp) ?_
              simp only [List.setIfInBounds_toArray, List.set_cons_zero, List.set_cons_succ]
              refine wpZ_v 4 (.pointer (some ⟨go, j, none⟩)) rfl rfl (by kernel_rfl) (by kernel_rfl) (by kernel_rfl) (fun _ _ _ _ h => h) (by kernel_rfl) rfl (by rfl) (fun W' hW => by
                skip
                go_simp) ?_
              simp only [List.setIfInBounds_toArray, List.set_cons_zero, List.set_cons_succ]
              refine wpZ_v 5 (.int .i64 x0) rfl rfl (by kernel_rfl) (by kernel_rfl) (by kernel_rfl) (fun _ _ _ _ h => h) (by kernel_rfl) rfl (by rfl) (fun W' hW => by
                obtain ⟨x0c, x1c, yc⟩ := HX W' (gtrans (((Ext.refl wp).drew).grownBy _) hW)
                go_simp) ?_
              simp only [List.setIfInBounds_toArray, List.set_cons_zero, List.set_cons_succ]
              refine wpZ_v 6 ((Value.slice (some ⟨go, 0, none⟩) out.length co)) rfl rfl (by kernel_rfl) (by kernel_rfl) (by kernel_rfl) (fun _ _ _ _ h => h) (by kernel_rfl) rfl (by rfl) (fun W' hW => by
                skip
                go_simp) ?_
              simp only [List.setIfInBounds_toArray, List.set_cons_zero, List.set_cons_succ]
              refine wpZ_v 7 (.int .i64 (j : Int)) rfl rfl (by kernel_rfl) (by kernel_rfl) (by kernel_rfl) (fun _ _ _ _ h => h) (by kernel_rfl) rfl (by rfl) (fun W' hW => by
                skip
                go_simp) ?_
              simp only [List.setIfInBounds_toArray, List.set_cons_zero, List.set_cons_succ]
              refine wpZ_v 8 (.int .i64 ((j : Int) + 1)) rfl rfl (by kernel_rfl) (by kernel_rfl) (by kernel_rfl) (fun _ _ _ _ h => h) (by kernel_rfl) rfl (by rfl) (fun W' hW => by
                skip
                go_simp) ?_
              simp only [List.setIfInBounds_toArray, List.set_cons_zero, List.set_cons_succ]
              refine wpZ_v 9 (.pointer (some ⟨go, j + 1, none⟩)) rfl rfl (by kernel_rfl) (by kernel_rfl) (by kernel_rfl) (fun _ _ _ _ h => h) (by kernel_rfl) rfl (by rfl) (fun W' hW => by
                skip
                go_simp) ?_
              simp only [List.setIfInBounds_toArray, List.set_cons_zero, List.set_cons_succ]
              refine wpZ_v 10 (.int .i64 x1) rfl rfl (by kernel_rfl) (by kernel_rfl) (by kernel_rfl) (fun _ _ _ _ h => h) (by kernel_rfl) rfl (by rfl) (fun W' hW => by
                obtain ⟨x0c, x1c, yc⟩ := HX W' (gtrans (((Ext.refl wp).drew).grownBy _) hW)
                go_simp) ?_
              simp only [List.setIfInBounds_toArray, List.set_cons_zero, List.set_cons_succ]
              refine wpZ_v 11 (.agg #[.int .i64 x0, .int .i64 x1]) rfl rfl (by kernel_rfl) (by kernel_rfl) (by kernel_rfl) (fun _ _ _ _ h => h) (by kernel_rfl) rfl (by rfl) (fun W' hW => by
                skip
                go_simp) ?_
              simp only [List.setIfInBounds_toArray, List.set_cons_zero, List.set_cons_succ]
              refine wpZ_m 12 rfl rfl (by kernel_rfl) rfl (by rfl) fun W1 hW1 => ?_
              have hX1 := ((Ext.refl wp).drew).trans hW1
              have hX := (Ext.refl W1).alloc (.cells #[.int .i64 x0, .int .i64 x1] 62)
              refine ⟨.slice (some ⟨W1.heap.size, 0, none⟩) 1 1, W1.alloc (.cells #[.int .i64 x0, .int .i64 x1] 62), by go_simp, hX.grownBy _, ?_⟩
              simp only [List.setIfInBounds_toArray, List.set_cons_zero, List.set_cons_succ]
              have hin : InR outCells (W1.alloc (.cells #[.int .i64 x0, .int .i64 x1] 62)) (.slice (some ⟨W1.heap.size, 0, none⟩) 1 1) [(x0, x1)] := (OwnR_one (f := outCells) W1 (x0, x1) rfl 62).inR
              have hX2 := hX1.trans hX
              generalize W1.alloc (.cells #[.int .i64 x0, .int .i64 x1] 62) = W2 at *
              generalize W1.heap.size = gn at *
              refine wpZ_appendR elem_pr 13 (.tmp 82) (.tmp 93) w.heap.size yo outs _ [(x0, x1)] rfl rfl (by kernel_rfl) rfl (by rfl) rfl rfl rfl (hT.rows.ext hX2).out hin (fun _ _ => rfl) (fun a ha u hu => by simp only [List.mem_singleton] at ha; subst ha; simp only [outCells, List.mem_cons, List.not_mem_nil, or_false] at hu; rcases hu with rfl | rfl <;> rfl) (by simp; omega) (by omega) (by have := hT.rs.ext.size; have := hX2.size; omega) fun v4 W3 W4 hW3 ho4 hg4 => ?_
              simp only [List.setIfInBounds_toArray, List.set_cons_zero, List.set_cons_succ]
              have hX3 := hX2.trans hW3
              have hT3 := hT.rows.ext hX3
              obtain ⟨A4, c4, hv4, _, _⟩ := ho4.inR
              rw [List.length_append, List.length_singleton] at hv4
              subst hv4
              refine wpZ_end rfl fun W5 hW5 => tail_seq 14 rfl (by kernel_rfl) ?_
              simp only [List.drop_succ_cons, List.drop_zero]
              have hr5 := (hT3.addO hg4 ho4).ext hW5
              have hQ5 := hW5.heap (blk_grown (hX3.heap hT.rep) hg4.grown (hT.rows.out.ne_blk hT.rep (by decide)).symm)
              have hB5 := hW5.heap (blk_grown (hX3.heap hT.res) hg4.grown (hT.rows.out.ne_blk hT.res (by decide)).symm)
              obtain ⟨pr, badr, hBR, _⟩ := id hT.rs.blk
              have hS5 := ((hT.rs.grow hX3).far hg4.grown (hT.rows.out.ne_blk hBR (by decide)).symm hT.rows.out.ge).grow hW5
              have hn5 := ((hnum.ext hX3).kept hg4.grown (row_ne (hnum.ext hX3) hT3.out (by decide))).ext hW5
              have HP3 : Hid (outs ++ [(x0, x1)] = outP (out.take (j + 2))) := Lib.hid (by rw [HP2.out, HP.out])
              clear hin ho4 hg4 hT3 hX3 hT hBR HX hX1 hX2 hX hW1 hW3 hW5 hnum HP HP2
              obtain ⟨q0, q1, q2, q3, q4, q5, q6, q7, q8, q9, q10⟩ := blk11 hQ5
              have f3 := blk_free hQ5 3
              have hlt5 := heap_lt hQ5
              go_wp2_with fail
              refine NoPanic.normal ?_
              have hg6 : W5.grownBy (W5.setCell ⟨g5, 3, none⟩ (Value.slice A4 (outs.length + 1) c4)) (some g5) := gset W5 ⟨g5, 3, none⟩ (Value.slice A4 (outs.length + 1) c4)
              have H6 : Stage2 w (W5.setCell ⟨g5, 3, none⟩ (Value.slice A4 (outs.length + 1) c4)) g5 A c b err (Value.slice Aw words.length cw) yt (Value.slice A4 (outs.length + 1) c4) words us (outs ++ [(x0, x1)]) st18 (Value.slice (some ⟨go, 0, none⟩) out.length co) out := ⟨hS5.far hg6 (by simp; omega) (fun k e => by cases e; omega), blk_grown hB5 hg6 (by simp; omega), blk_set hQ5 3 _, hr5.far hg6 hQ5 (by decide) (by decide) (by decide), hn5.kept hg6 (.inr (hn5.ne_blk hQ5 (by decide)))⟩
              clear hS5 hB5 hQ5 hr5 hn5 hg6 q0 q1 q2 q3 q4 q5 q6 q7 q8 q9 q10 f3 hlt5
              generalize W5.setCell ⟨g5, 3, none⟩ (Value.slice A4 (outs.length + 1) c4) = w6' at *
              go_wp2_with fail
              go_roundw
              case rel => exact ⟨j + 2, _, outs ++ [(x0, x1)], by go_num, by omega, by omega, H6, HP3, by
                have h1 := hol.out
                rw [← HP3.out, List.length_take] at h1
                omega⟩
              case measure => simp [intOf]; omega
            · have hj1 : ¬ (j : Int) + 1 < (out.length : Int) := by omega
              have HP2 : Hid (outs = outP out) := Lib.hid (by rw [HP.out, outP_end hev hj])
              clear HP
              go_wp2_with fail
              refine (rdExactly_any w wp (w.heap.size + 1) _ b st18 7 (by omega) hT.rs (by omega)).mono ?_
              rintro e w20 ⟨z, l, st20, rfl, ho20, hS20, hI20, hl20, hok20, hg20⟩
              obtain ⟨s0, s1, s2, s3, s4, s5, s6, rfl⟩ := list7 hl20
              obtain ⟨gs, cs, rfl, hgs, hgs2⟩ := ho20.form (by simp)
              have HD4 := Lib.hid (HD.out.stop hI20)
              have HO20 := Lib.hid hok20
              obtain ⟨pr, badr, hBR, _⟩ := id hT.rs.blk
              have hB20 := blk_grown hT.res hg20 (by simp)
              have hQ20 := blk_grown hT.rep hg20 (by simp; omega)
              have hr20 := hT.rows.far hg20 hBR (by decide) (by decide) (by decide)
              clear HD hI20 hok20 hl20 hT hBR hg20
              simp only [List.length_cons, List.length_nil] at ho20 ⊢
              go_wp2_with fail
              refine wp_region_X #[true, true, true, true, true, true, true, true, true, true, true, true, true, true, true, true, true, true, true, true, true, true, false, false] 22 2 (by kernel_rfl) rfl ?_
              refine wpX_vt 0 (.slice (some ⟨gs, 0, none⟩) 7 cs) rfl rfl (by kernel_rfl) (by kernel_rfl) (by kernel_rfl) (fun _ _ _ _ h => h) (by kernel_rfl) rfl (by rfl) (fun W' hW => by
                skip
                go_simp) ?_
              simp only [List.setIfInBounds_toArray, List.set_cons_zero, List.set_cons_succ]
              refine wpX_vt 1 (.pointer (some ⟨gs, 0, none⟩)) rfl rfl (by kernel_rfl) (by kernel_rfl) (by kernel_rfl) (fun _ _ _ _ h => h) (by kernel_rfl) rfl (by rfl) (fun W' hW => by
                skip
                go_simp) ?_
              simp only [List.setIfInBounds_toArray, List.set_cons_zero, List.set_cons_succ]
              refine wpX_vt 2 (.int .i64 s0) rfl rfl (by kernel_rfl) (by kernel_rfl) (by kernel_rfl) (fun _ _ _ _ h => h) (by kernel_rfl) rfl (by rfl) (fun W' hW => by
                obtain ⟨x0, _⟩ := (ho20.ext (((Ext.refl w20).drew).trans hW)).at_ rfl 0 (by simp)
                obtain ⟨x1, _⟩ := (ho20.ext (((Ext.refl w20).drew).trans hW)).at_ rfl 1 (by simp)
                obtain ⟨x2, _⟩ := (ho20.ext (((Ext.refl w20).drew).trans hW)).at_ rfl 2 (by simp)
                obtain ⟨x3, _⟩ := (ho20.ext (((Ext.refl w20).drew).trans hW)).at_ rfl 3 (by simp)
                obtain ⟨x4, _⟩ := (ho20.ext (((Ext.refl w20).drew).trans hW)).at_ rfl 4 (by simp)
                obtain ⟨x5, _⟩ := (ho20.ext (((Ext.refl w20).drew).trans hW)).at_ rfl 5 (by simp)
                obtain ⟨x6, _⟩ := (ho20.ext (((Ext.refl w20).drew).trans hW)).at_ rfl 6 (by simp)
                simp only [iv, List.getElem_cons_zero, List.getElem_cons_succ] at x0 x1 x2 x3 x4 x5 x6
                go_simp) ?_
              simp only [List.setIfInBounds_toArray, List.set_cons_zero, List.set_cons_succ]
              refine wpX_vt 3 (.slice (some ⟨gs, 0, none⟩) 7 cs) rfl rfl (by kernel_rfl) (by kernel_rfl) (by kernel_rfl) (fun _ _ _ _ h => h) (by kernel_rfl) rfl (by rfl) (fun W' hW => by
                skip
                go_simp) ?_
              simp only [List.setIfInBounds_toArray, List.set_cons_zero, List.set_cons_succ]
              refine wpX_vt 4 (.pointer (some ⟨gs, 1, none⟩)) rfl rfl (by kernel_rfl) (by kernel_rfl) (by kernel_rfl) (fun _ _ _ _ h => h) (by kernel_rfl) rfl (by rfl) (fun W' hW => by
                skip
                go_simp) ?_
              simp only [List.setIfInBounds_toArray, List.set_cons_zero, List.set_cons_succ]
              refine wpX_vt 5 (.int .i64 s1) rfl rfl (by kernel_rfl) (by kernel_rfl) (by kernel_rfl) (fun _ _ _ _ h => h) (by kernel_rfl) rfl (by rfl) (fun W' hW => by
                obtain ⟨x0, _⟩ := (ho20.ext (((Ext.refl w20).drew).trans hW)).at_ rfl 0 (by simp)
                obtain ⟨x1, _⟩ := (ho20.ext (((Ext.refl w20).drew).trans hW)).at_ rfl 1 (by simp)
                obtain ⟨x2, _⟩ := (ho20.ext (((Ext.refl w20).drew).trans hW)).at_ rfl 2 (by simp)
                obtain ⟨x3, _⟩ := (ho20.ext (((Ext.refl w20).drew).trans hW)).at_ rfl 3 (by simp)
                obtain ⟨x4, _⟩ := (ho20.ext (((Ext.refl w20).drew).trans hW)).at_ rfl 4 (by simp)
                obtain ⟨x5, _⟩ := (ho20.ext (((Ext.refl w20).drew).trans hW)).at_ rfl 5 (by simp)
                obtain ⟨x6, _⟩ := (ho20.ext (((Ext.refl w20).drew).trans hW)).at_ rfl 6 (by simp)
                simp only [iv, List.getElem_cons_zero, List.getElem_cons_succ] at x0 x1 x2 x3 x4 x5 x6
                go_simp) ?_
              simp only [List.setIfInBounds_toArray, List.set_cons_zero, List.set_cons_succ]
              refine wpX_vt 6 (.slice (some ⟨gs, 0, none⟩) 7 cs) rfl rfl (by kernel_rfl) (by kernel_rfl) (by kernel_rfl) (fun _ _ _ _ h => h) (by kernel_rfl) rfl (by rfl) (fun W' hW => by
                skip
                go_simp) ?_
              simp only [List.setIfInBounds_toArray, List.set_cons_zero, List.set_cons_succ]
              refine wpX_vt 7 (.pointer (some ⟨gs, 2, none⟩)) rfl rfl (by kernel_rfl) (by kernel_rfl) (by kernel_rfl) (fun _ _ _ _ h => h) (by kernel_rfl) rfl (by rfl) (fun W' hW => by
                skip
                go_simp) ?_
              simp only [List.setIfInBounds_toArray, List.set_cons_zero, List.set_cons_succ]
              refine wpX_vt 8 (.int .i64 s2) rfl rfl (by kernel_rfl) (by kernel_rfl) (by kernel_rfl) (fun _ _ _ _ h => h) (by kernel_rfl) rfl (by rfl) (fun W' hW => by
                obtain ⟨x0, _⟩ := (ho20.ext (((Ext.refl w20).drew).trans hW)).at_ rfl 0 (by simp)
                obtain ⟨x1, _⟩ := (ho20.ext (((Ext.refl w20).drew).trans hW)).at_ rfl 1 (by simp)
                obtain ⟨x2, _⟩ := (ho20.ext (((Ext.refl w20).drew).trans hW)).at_ rfl 2 (by simp)
                obtain ⟨x3, _⟩ := (ho20.ext (((Ext.refl w20).drew).trans hW)).at_ rfl 3 (by simp)
                obtain ⟨x4, _⟩ := (ho20.ext (((Ext.refl w20).drew).trans hW)).at_ rfl 4 (by simp)
                obtain ⟨x5, _⟩ := (ho20.ext (((Ext.refl w20).drew).trans hW)).at_ rfl 5 (by simp)
                obtain ⟨x6, _⟩ := (ho20.ext (((Ext.refl w20).drew).trans hW)).at_ rfl 6 (by simp)
                simp only [iv, List.getElem_cons_zero, List.getElem_cons_succ] at x0 x1 x2 x3 x4 x5 x6
                go_simp) ?_
              simp only [List.setIfInBounds_toArray, List.set_cons_zero, List.set_cons_succ]
              refine wpX_vt 9 (.slice (some ⟨gs, 0, none⟩) 7 cs) rfl rfl (by kernel_rfl) (by kernel_rfl) (by kernel_rfl) (fun _ _ _ _ h => h) (by kernel_rfl) rfl (by rfl) (fun W' hW => by
                skip
                go_simp) ?_
              simp only [List.setIfInBounds_toArray, List.set_cons_zero, List.set_cons_succ]
              refine wpX_vt 10 (.pointer (some ⟨gs, 3, none⟩)) rfl rfl (by kernel_rfl) (by kernel_rfl) (by kernel_rfl) (fun _ _ _ _ h => h) (by kernel_rfl) rfl (by rfl) (fun W' hW => by
                skip
                go_simp) ?_
              simp only [List.setIfInBounds_toArray, List.set_cons_zero, List.set_cons_succ]
              refine wpX_vt 11 (.int .i64 s3) rfl rfl (by kernel_rfl) (by kernel_rfl) (by kernel_rfl) (fun _ _ _ _ h => h) (by kernel_rfl) rfl (by rfl) (fun W' hW => by
                obtain ⟨x0, _⟩ := (ho20.ext (((Ext.refl w20).drew).trans hW)).at_ rfl 0 (by simp)
                obtain ⟨x1, _⟩ := (ho20.ext (((Ext.refl w20).drew).trans hW)).at_ rfl 1 (by simp)
                obtain ⟨x2, _⟩ := (ho20.ext (((Ext.refl w20).drew).trans hW)).at_ rfl 2 (by simp)
                obtain ⟨x3, _⟩ := (ho20.ext (((Ext.refl w20).drew).trans hW)).at_ rfl 3 (by simp)
                obtain ⟨x4, _⟩ := (ho20.ext (((Ext.refl w20).drew).trans hW)).at_ rfl 4 (by simp)
                obtain ⟨x5, _⟩ := (ho20.ext (((Ext.refl w20).drew).trans hW)).at_ rfl 5 (by simp)
                obtain ⟨x6, _⟩ := (ho20.ext (((Ext.refl w20).drew).trans hW)).at_ rfl 6 (by simp)
                simp only [iv, List.getElem_cons_zero, List.getElem_cons_succ] at x0 x1 x2 x3 x4 x5 x6
                go_simp) ?_
              simp only [List.setIfInBounds_toArray, List.set_cons_zero, List.set_cons_succ]
              refine wpX_vt 12 (.slice (some ⟨gs, 0, none⟩) 7 cs) rfl rfl (by kernel_rfl) (by kernel_rfl) (by kernel_rfl) (fun _ _ _ _ h => h) (by kernel_rfl) rfl (by rfl) (fun W' hW => by
                skip
                go_simp) ?_
              simp only [List.setIfInBounds_toArray, List.set_cons_zero, List.set_cons_succ]
              refine wpX_vt 13 (.pointer (some ⟨gs, 4, none⟩)) rfl rfl (by kernel_rfl) (by kernel_rfl) (by kernel_rfl) (fun _ _ _ _ h => h) (by kernel_rfl) rfl (by rfl) (fun W' hW => by
                skip
                go_simp) ?_
              simp only [List.setIfInBounds_toArray, List.set_cons_zero, List.set_cons_succ]
              refine wpX_vt 14 (.int .i64 s4) rfl rfl (by kernel_rfl) (by kernel_rfl) (by kernel_rfl) (fun _ _ _ _ h => h) (by kernel_rfl) rfl (by rfl) (fun W' hW => by
                obtain ⟨x0, _⟩ := (ho20.ext (((Ext.refl w20).drew).trans hW)).at_ rfl 0 (by simp)
                obtain ⟨x1, _⟩ := (ho20.ext (((Ext.refl w20).drew).trans hW)).at_ rfl 1 (by simp)
                obtain ⟨x2, _⟩ := (ho20.ext (((Ext.refl w20).drew).trans hW)).at_ rfl 2 (by simp)
                obtain ⟨x3, _⟩ := (ho20.ext (((Ext.refl w20).drew).trans hW)).at_ rfl 3 (by simp)
                obtain ⟨x4, _⟩ := (ho20.ext (((Ext.refl w20).drew).trans hW)).at_ rfl 4 (by simp)
                obtain ⟨x5, _⟩ := (ho20.ext (((Ext.refl w20).drew).trans hW)).at_ rfl 5 (by simp)
                obtain ⟨x6, _⟩ := (ho20.ext (((Ext.refl w20).drew).trans hW)).at_ rfl 6 (by simp)
                simp only [iv, List.getElem_cons_zero, List.getElem_cons_succ] at x0 x1 x2 x3 x4 x5 x6
                go_simp) ?_
              simp only [List.setIfInBounds_toArray, List.set_cons_zero, List.set_cons_succ]
              refine wpX_vt 15 (.slice (some ⟨gs, 0, none⟩) 7 cs) rfl rfl (by kernel_rfl) (by kernel_rfl) (by kernel_rfl) (fun _ _ _ _ h => h) (by kernel_rfl) rfl (by rfl) (fun W' hW => by
                skip
                go_simp) ?_
              simp only [List.setIfInBounds_toArray, List.set_cons_zero, List.set_cons_succ]
              refine wpX_vt 16 (.pointer (some ⟨gs, 5, none⟩)) rfl rfl (by kernel_rfl) (by kernel_rfl) (by kernel_rfl) (fun _ _ _ _ h => h) (by kernel_rfl) rfl (by rfl) (fun W' hW => by
                skip
                go_simp) ?_
              simp only [List.setIfInBounds_toArray, List.set_cons_zero, List.set_cons_succ]
              refine wpX_vt 17 (.int .i64 s5) rfl rfl (by kernel_rfl) (by kernel_rfl) (by kernel_rfl) (fun _ _ _ _ h => h) (by kernel_rfl) rfl (by rfl) (fun W' hW => by
                obtain ⟨x0, _⟩ := (ho20.ext (((Ext.refl w20).drew).trans hW)).at_ rfl 0 (by simp)
                obtain ⟨x1, _⟩ := (ho20.ext (((Ext.refl w20).drew).trans hW)).at_ rfl 1 (by simp)
                obtain ⟨x2, _⟩ := (ho20.ext (((Ext.refl w20).drew).trans hW)).at_ rfl 2 (by simp)
                obtain ⟨x3, _⟩ := (ho20.ext (((Ext.refl w20).drew).trans hW)).at_ rfl 3 (by simp)
                obtain ⟨x4, _⟩ := (ho20.ext (((Ext.refl w20).drew).trans hW)).at_ rfl 4 (by simp)
                obtain ⟨x5, _⟩ := (ho20.ext (((Ext.refl w20).drew).trans hW)).at_ rfl 5 (by simp)
                obtain ⟨x6, _⟩ := (ho20.ext (((Ext.refl w20).drew).trans hW)).at_ rfl 6 (by simp)
                simp only [iv, List.getElem_cons_zero, List.getElem_cons_succ] at x0 x1 x2 x3 x4 x5 x6
                go_simp) ?_
              simp only [List.setIfInBounds_toArray, List.set_cons_zero, List.set_cons_succ]
              refine wpX_vt 18 (.slice (some ⟨gs, 0, none⟩) 7 cs) rfl rfl (by kernel_rfl) (by kernel_rfl) (by kernel_rfl) (fun _ _ _ _ h => h) (by kernel_rfl) rfl (by rfl) (fun W' hW => by
                skip
                go_simp) ?_
              simp only [List.setIfInBounds_toArray, List.set_cons_zero, List.set_cons_succ]
              refine wpX_vt 19 (.pointer (some ⟨gs, 6, none⟩)) rfl rfl (by kernel_rfl) (by kernel_rfl) (by kernel_rfl) (fun _ _ _ _ h => h) (by kernel_rfl) rfl (by rfl) (fun W' hW => by
                skip
                go_simp) ?_
              simp only [List.setIfInBounds_toArray, List.set_cons_zero, List.set_cons_succ]
              refine wpX_vt 20 (.int .i64 s6) rfl rfl (by kernel_rfl) (by kernel_rfl) (by kernel_rfl) (fun _ _ _ _ h => h) (by kernel_rfl) rfl (by rfl) (fun W' hW => by
                obtain ⟨x0, _⟩ := (ho20.ext (((Ext.refl w20).drew).trans hW)).at_ rfl 0 (by simp)
                obtain ⟨x1, _⟩ := (ho20.ext (((Ext.refl w20).drew).trans hW)).at_ rfl 1 (by simp)
                obtain ⟨x2, _⟩ := (ho20.ext (((Ext.refl w20).drew).trans hW)).at_ rfl 2 (by simp)
                obtain ⟨x3, _⟩ := (ho20.ext (((Ext.refl w20).drew).trans hW)).at_ rfl 3 (by simp)
                obtain ⟨x4, _⟩ := (ho20.ext (((Ext.refl w20).drew).trans hW)).at_ rfl 4 (by simp)
                obtain ⟨x5, _⟩ := (ho20.ext (((Ext.refl w20).drew).trans hW)).at_ rfl 5 (by simp)
                obtain ⟨x6, _⟩ := (ho20.ext (((Ext.refl w20).drew).trans hW)).at_ rfl 6 (by simp)
                simp only [iv, List.getElem_cons_zero, List.getElem_cons_succ] at x0 x1 x2 x3 x4 x5 x6
                go_simp) ?_
              simp only [List.setIfInBounds_toArray, List.set_cons_zero, List.set_cons_succ]
              refine wpX_vt 21 (.agg #[.int .i64 s0, .int .i64 s1, .int .i64 s2, .int .i64 s3, .int .i64 s4, .int .i64 s5, .int .i64 s6]) rfl rfl (by kernel_rfl) (by kernel_rfl) (by kernel_rfl) (fun _ _ _ _ h => h) (by kernel_rfl) rfl (by rfl) (fun W' hW => by
                skip
                go_simp) ?_
              simp only [List.setIfInBounds_toArray, List.set_cons_zero, List.set_cons_succ]
              refine wpX_end rfl fun W21 hW21 => tail_seq 22 rfl (by kernel_rfl) ?_
              simp only [List.drop_succ_cons, List.drop_zero]
              have hX21 := ((Ext.refl w20).drew).trans hW21
              have hS21 := hS20.grow hX21
              have hB21 := hX21.heap hB20
              have hQ21 := hX21.heap hQ20
              have hr21 := hr20.ext hX21
              clear hS20 hB20 hQ20 hr20 ho20 hX21 hW21
              obtain ⟨q0, q1, q2, q3, q4, q5, q6, q7, q8, q9, q10⟩ := blk11 hQ21
              obtain ⟨f0, f1, f2, f3, f4, f5, f6, f7, f8, f9, f10⟩ := blk11f hQ21
              have hlt21 := heap_lt hQ21
              go_wp2_with fail
              refine NoPanic.normal ?_
              obtain ⟨W22, hW22, hQ22, hg22⟩ := store7 hQ21 (.int .i64 s0) (.int .i64 s1) (.int .i64 s2) (.int .i64 s3) (.int .i64 s4) (.int .i64 s5) (.int .i64 s6)
              rw [hW22]
              clear hW22 q0 q1 q2 q3 q4 q5 q6 q7 q8 q9 q10 f0 f1 f2 f3 f4 f5 f6 f7 f8 f9 f10
              have hS22 := hS21.far hg22 (by simp; omega) (fun k e => by cases e; omega)
              have hB22 := blk_grown hB21 hg22 (by simp; omega)
              have hr22 := hr21.far hg22 hQ21 (by decide) (by decide) (by decide)
              have hE22 : Ext w W22 := hS22.ext
              obtain ⟨q, hq⟩ : ∃ q : Rep, q = ⟨err, words, us.map Prod.fst, outs, s0, s1, s2, s3, s4, s5, s6⟩ := ⟨_, rfl⟩
              have HD5 : Hid (Dec4 b q st20) := Lib.hid (by rw [hq, HP2.out]; exact HD4.out)
              have HQ := Lib.hid hq
              have hri : ∀ W', RowsAt w.heap.size W' (Value.slice Aw words.length cw) yt yo words us outs → RepAt W' (.agg #[.int .i64 err, (Value.slice Aw words.length cw), yt, yo, .int .i64 s0, .int .i64 s1, .int .i64 s2, .int .i64 s3, .int .i64 s4, .int .i64 s5, .int .i64 s6]) q := fun W' h => ⟨_, _, _, by rw [hq], by rw [hq]; exact h.repIn err s0 s1 s2 s3 s4 s5 s6⟩
              have HRI := Lib.hid hri
              have HQO : Hid (q.Ok ∧ q.Fits ∧ ∀ t ∈ q.threads, t.regs.length = 16) := Lib.hid (by
                rw [hq]
                refine ⟨⟨HE.out, HOW.out, ?_, ?_, HO20.out⟩, ⟨by simp only; omega, hlo, by simp only [List.length_map]; omega, ?_⟩, ?_⟩
                · intro t ht
                  obtain ⟨u, hu, rfl⟩ := List.mem_map.1 ht
                  exact HT.out.ok u hu
                · intro x hx
                  simp only [HP2.out] at hx
                  exact HO17.out x (outP_mem out x hx)
                · intro t ht
                  obtain ⟨u, hu, rfl⟩ := List.mem_map.1 ht
                  exact HT.out.args u hu
                · intro t ht
                  obtain ⟨u, hu, rfl⟩ := List.mem_map.1 ht
                  exact hr22.regs u hu)
              clear hq hri hS21 hB21 hQ21 hr21 hg22 hlt21 HD4 HP2 HO20 HO17 HT HOW HE
              obtain ⟨p6, bad6, hR6, hst6⟩ := id hS22.blk
              obtain ⟨r0, r1, r2, _, _, _⟩ := blk3 hR6
              cases bad6 with
              | true =>
                obtain rfl : st20 = none := hst6
                have HN : ¬ ∃ r : Rep, r.Enc b := HD5.out.none
                have hst := run_storeAt_blk (P := Try.prog) W22 w.heap.size 58 58 _ #[.int .i64 0, (.slice none 0 0), (.slice none 0 0), (.slice none 0 0), .int .i64 0, .int .i64 0, .int .i64 0, .int .i64 0, .int .i64 0, .int .i64 0, .int .i64 0] hB22 rep_size rfl (by simp [Value.oneCell'])
                go_wp2_with first | refine wpList_store_run rfl 58 (.tmp 2) (.tmp 125) rfl _ _ _ rfl rfl hst ?_
                have hB25 := setRow_heap W22 w.heap.size _ #[.int .i64 0, (.slice none 0 0), (.slice none 0 0), (.slice none 0 0), .int .i64 0, .int .i64 0, .int .i64 0, .int .i64 0, .int .i64 0, .int .i64 0, .int .i64 0] _ _ hB22
                have hg25 := gsetRow W22 w.heap.size #[.int .i64 0, (.slice none 0 0), (.slice none 0 0), (.slice none 0 0), .int .i64 0, .int .i64 0, .int .i64 0, .int .i64 0, .int .i64 0, .int .i64 0, .int .i64 0]
                have hE25 := hE22.grown hg25 (fun k e => by cases e; omega)
                generalize W22.setRow w.heap.size #[.int .i64 0, (.slice none 0 0), (.slice none 0 0), (.slice none 0 0), .int .i64 0, .int .i64 0, .int .i64 0, .int .i64 0, .int .i64 0, .int .i64 0, .int .i64 0] = W25 at *
                obtain ⟨e0, e1, e2, e3, e4, e5, e6, e7, e8, e9, e10⟩ := blk11 hB25
                refine bodyPost_ret (v := .tuple #[.agg #[.int .i64 0, (.slice none 0 0), (.slice none 0 0), (.slice none 0 0), .int .i64 0, .int .i64 0, .int .i64 0, .int .i64 0, .int .i64 0, .int .i64 0, .int .i64 0], .int .i64 4]) (by simp [results, Try.results34, go_sem, e0, e1, e2, e3, e4, e5, e6, e7, e8, e9, e10]) rfl ?_
                exact ⟨_, rep0, 4, rfl, .inr ⟨rfl, rfl, HN⟩, ⟨_, _, _, rfl, InV.nil _, ThrsAt.nil _, InR.nil _⟩, hE25⟩
              | false =>
                obtain ⟨q0, q1, q2, q3, q4, q5, q6, q7, q8, q9, q10⟩ := blk11 hQ22
                obtain ⟨Ay, cay, rfl, _, _⟩ := hr22.thr.inR
                obtain ⟨Ao2, co2, rfl, _, _⟩ := hr22.out.inR
                go_wp2_with fail
                refine (EncodeReply_any _ q W22 (HRI.out _ hr22) HQO.out.1).mono ?_
                rintro e w23 ⟨y23, er23, rfl, h23, hX23⟩
                obtain ⟨_, rfl, ho23⟩ | ⟨h23, _, _⟩ := h23
                rotate_left
                · exact absurd HQO.out.2.1 h23
                have hB23 := hX23.heap hB22
                have hQ23 := hX23.heap hQ22
                have hr23 := hr22.ext hX23
                have hE23 := hE22.trans hX23
                obtain ⟨Y7, cy7, rfl, _, _⟩ := ho23.inV
                clear q0 q1 q2 q3 q4 q5 q6 q7 q8 q9 q10 hQ22 hB22 hr22 hS22 r0 r1 r2 hR6 hE22
                go_wp2_with fail
                refine (bytesEqual_any _ _ _ b w23 ho23.inV (hy.ext hE23)).mono ?_
                rintro e w24 ⟨r, rfl, hr, hX24⟩
                have hB22 := hX24.heap hB23
                have hQ22 := hX24.heap hQ23
                have hr22 := hr23.ext hX24
                have hE22 := hE23.trans hX24
                have HR := Lib.hid hr
                clear hr hB23 hQ23 hr23 hE23 ho23
                generalize w24 = W22 at *
                cases r with
                | true =>
                  have hst := run_storeAt_blk (P := Try.prog) W22 w.heap.size 58 58 _ #[.int .i64 err, (Value.slice Aw words.length cw), .slice Ay us.length cay, .slice Ao2 outs.length co2, .int .i64 s0, .int .i64 s1, .int .i64 s2, .int .i64 s3, .int .i64 s4, .int .i64 s5, .int .i64 s6] hB22 rep_size rfl (by simp [Value.oneCell'])
                  have hld := run_loadAt_blk (P := Try.prog) W22 g5 58 58 _ (0, 0) _ hQ22 Try.underlying58 rfl rep_size
                  go_wp2_with first | refine wpList_load_run rfl 58 (.tmp 5) rfl _ _ rfl hld ?_ | refine wpList_store_run rfl 58 (.tmp 2) (.tmp 140) rfl _ _ _ rfl rfl hst ?_
                  have hB25 := setRow_heap W22 w.heap.size _ #[.int .i64 err, (Value.slice Aw words.length cw), .slice Ay us.length cay, .slice Ao2 outs.length co2, .int .i64 s0, .int .i64 s1, .int .i64 s2, .int .i64 s3, .int .i64 s4, .int .i64 s5, .int .i64 s6] _ _ hB22
                  have hg25 := gsetRow W22 w.heap.size #[.int .i64 err, (Value.slice Aw words.length cw), .slice Ay us.length cay, .slice Ao2 outs.length co2, .int .i64 s0, .int .i64 s1, .int .i64 s2, .int .i64 s3, .int .i64 s4, .int .i64 s5, .int .i64 s6]
                  have hr25 := hr22.far hg25 hB22 (by decide) (by decide) (by decide)
                  have hE25 := hE22.grown hg25 (fun k e => by cases e; omega)
                  generalize W22.setRow w.heap.size #[.int .i64 err, (Value.slice Aw words.length cw), .slice Ay us.length cay, .slice Ao2 outs.length co2, .int .i64 s0, .int .i64 s1, .int .i64 s2, .int .i64 s3, .int .i64 s4, .int .i64 s5, .int .i64 s6] = W25 at *
                  obtain ⟨e0, e1, e2, e3, e4, e5, e6, e7, e8, e9, e10⟩ := blk11 hB25
                  refine bodyPost_ret (v := .tuple #[.agg #[.int .i64 err, (Value.slice Aw words.length cw), .slice Ay us.length cay, .slice Ao2 outs.length co2, .int .i64 s0, .int .i64 s1, .int .i64 s2, .int .i64 s3, .int .i64 s4, .int .i64 s5, .int .i64 s6], .int .i64 0]) (by simp [results, Try.results34, go_sem, e0, e1, e2, e3, e4, e5, e6, e7, e8, e9, e10]) rfl ?_
                  exact ⟨_, q, 0, rfl, .inl ⟨rfl, HQO.out.1, HQO.out.2.1, HQO.out.2.2, HR.out.1 (by simp)⟩, HRI.out _ hr25, hE25⟩
                | false =>
                  have HN : ¬ ∃ r : Rep, r.Enc b := HD5.out.ne (fun h => by have := HR.out.2 h; cases this)
                  have hst := run_storeAt_blk (P := Try.prog) W22 w.heap.size 58 58 _ #[.int .i64 0, (.slice none 0 0), (.slice none 0 0), (.slice none 0 0), .int .i64 0, .int .i64 0, .int .i64 0, .int .i64 0, .int .i64 0, .int .i64 0, .int .i64 0] hB22 rep_size rfl (by simp [Value.oneCell'])
                  go_wp2_with first | refine wpList_store_run rfl 58 (.tmp 2) (.tmp 139) rfl _ _ _ rfl rfl hst ?_
                  have hB25 := setRow_heap W22 w.heap.size _ #[.int .i64 0, (.slice none 0 0), (.slice none 0 0), (.slice none 0 0), .int .i64 0, .int .i64 0, .int .i64 0, .int .i64 0, .int .i64 0, .int .i64 0, .int .i64 0] _ _ hB22
                  have hg25 := gsetRow W22 w.heap.size #[.int .i64 0, (.slice none 0 0), (.slice none 0 0), (.slice none 0 0), .int .i64 0, .int .i64 0, .int .i64 0, .int .i64 0, .int .i64 0, .int .i64 0, .int .i64 0]
                  have hE25 := hE22.grown hg25 (fun k e => by cases e; omega)
                  generalize W22.setRow w.heap.size #[.int .i64 0, (.slice none 0 0), (.slice none 0 0), (.slice none 0 0), .int .i64 0, .int .i64 0, .int .i64 0, .int .i64 0, .int .i64 0, .int .i64 0, .int .i64 0] = W25 at *
                  obtain ⟨e0, e1, e2, e3, e4, e5, e6, e7, e8, e9, e10⟩ := blk11 hB25
                  refine bodyPost_ret (v := .tuple #[.agg #[.int .i64 0, (.slice none 0 0), (.slice none 0 0), (.slice none 0 0), .int .i64 0, .int .i64 0, .int .i64 0, .int .i64 0, .int .i64 0, .int .i64 0, .int .i64 0], .int .i64 4]) (by simp [results, Try.results34, go_sem, e0, e1, e2, e3, e4, e5, e6, e7, e8, e9, e10]) rfl ?_
                  exact ⟨_, rep0, 4, rfl, .inr ⟨rfl, rfl, HN⟩, ⟨_, _, _, rfl, InV.nil _, ThrsAt.nil _, InR.nil _⟩, hE25⟩
end Go.Proofs.Ytoeibcpjmoekpaa
