/- Replies: how the reference reads threads and what was printed. -/
import Derived.Test.YtoeibcpjmoekpaaRepJ
namespace Go.Proofs.Ytoeibcpjmoekpaa
open Go.RowKit
set_option linter.unusedVariables false

/-- what was there of a thread to be read -/
def ThrIs (b : List UInt8) (st : Option Int) (t : Thr) (st' : Option Int) : Prop :=
  (∃ l st1, ListIs (st.bind (exR b 19)) l st1 ∧ ListIs (st1.bind (listR b 4)) t.args st' ∧ t = thrOf l t.args ∧ l.length = 19) ∨ (st.bind (exR b 19) = none ∧ st' = none)
def ThrPost (w0 W : World) (g : Nat) (y : Value) (b : List UInt8) (st : Option Int) (e : Ending) (W' : World) : Prop :=
  ∃ t z st', e = .returned (.agg (thrCells (t, z)).toArray) ∧ t.regs.length = 16 ∧ OwnV iv 3 W.heap.size W' z t.args ∧ RS 100 w0 W' g y b st' ∧ ThrIs b st t st' ∧ t.Ok ∧ t.args.length ≤ 4 ∧ W.grownBy W' (some g)
theorem ex_none {b : List UInt8} {n : Int} {st st' : Option Int} {l : List Int} (h : ListIs (st.bind (listR b n)) l st') (hn : ¬ (l.length : Int) = n) : st.bind (exR b n) = none := by
  rcases ex_not (m := []) h hn with ⟨q, _, h2⟩ | ⟨h1, _⟩
  · cases h2
  · exact h1
def thrZ : Thr := ⟨0, List.replicate 16 0, 0, 0, []⟩
theorem thrZ_ok : thrZ.Ok := ⟨fun x hx => by
  have : x = 0 := by
    simp only [Thr.nums, thrZ, List.cons_append, List.nil_append, List.mem_cons, List.mem_replicate] at hx
    rcases hx with h | h | h | h
    · exact h
    · exact h
    · exact h
    · exact h.2
  subst this; exact ⟨by omega, by omega⟩, fun x hx => by simp [thrZ] at hx⟩
set_option maxHeartbeats 4000000 in
set_option maxRecDepth 100000 in
theorem rfThread_any (w0 W : World) (g : Nat) (y : Value) (b : List UInt8) (st : Option Int) (hS : RS 100 w0 W g y b st) (hl : b.length ≤ 4294967296) :
    Calls Try.prog 60 #[.pointer (some ⟨g, 0, none⟩)] W (ThrPost w0 W g y b st) := by
  have hgl : g < W.heap.size := by
    obtain ⟨p, bad, h, _⟩ := hS.blk
    exact heap_lt h
  go_enter Try.func60, Try.ntmps60
  go_upto_region 1 with fail
  have hX1 := (Ext.refl W).alloc (.cells #[.int .i64 0, .int .i64 0, .int .i64 0, .int .i64 0, .int .i64 0, .int .i64 0, .int .i64 0, .int .i64 0, .int .i64 0, .int .i64 0, .int .i64 0, .int .i64 0, .int .i64 0, .int .i64 0, .int .i64 0, .int .i64 0, .int .i64 0, .int .i64 0, .int .i64 0, .slice none 0 0] 91)
  have hB1 := heap_alloc_new W (.cells #[.int .i64 0, .int .i64 0, .int .i64 0, .int .i64 0, .int .i64 0, .int .i64 0, .int .i64 0, .int .i64 0, .int .i64 0, .int .i64 0, .int .i64 0, .int .i64 0, .int .i64 0, .int .i64 0, .int .i64 0, .int .i64 0, .int .i64 0, .int .i64 0, .int .i64 0, .slice none 0 0] 91)
  have hS1 := hS.grow hX1
  have hG1 := hX1.grownBy (some g)
  clear hX1
  generalize W.alloc (.cells #[.int .i64 0, .int .i64 0, .int .i64 0, .int .i64 0, .int .i64 0, .int .i64 0, .int .i64 0, .int .i64 0, .int .i64 0, .int .i64 0, .int .i64 0, .int .i64 0, .int .i64 0, .int .i64 0, .int .i64 0, .int .i64 0, .int .i64 0, .int .i64 0, .int .i64 0, .slice none 0 0] 91) = w1 at *
  go_wp2_with fail
  refine (rfList_any w0 w1 g y b st 19 (by omega) (by omega) hS1 hl).mono ?_
  rintro e w2 ⟨z, l, st7, rfl, ho7, hS7, hI7, hl7, hok7, hg7⟩
  have hG2 := gtrans hG1 hg7
  have hB2 := blk_grown hB1 hg7 (by simp; omega)
  have ho7' := ho7.low (base' := W.heap.size) hG1.size
  have hs2 := hG2.size
  have hlt2 := heap_lt hB2
  obtain ⟨Z, cz, rfl, hcz, _⟩ := ho7.inV
  by_cases hl19 : l.length = 19
  rotate_left
  · have e9 : ((l.length : Int) == 19) = false := by simp; omega
    have HI := Lib.hid (ex_none hI7 (by omega))
    obtain ⟨p, bad, hBR, _⟩ := id hS7.blk
    obtain ⟨r0, r1, r2, _, _, fr2⟩ := blk3 hBR
    have hltr := heap_lt hBR
    clear hI7 hok7 hS1 hB1 hG1 hg7 ho7
    go_upto_region 4 with fail
    have hg3 : w2.grownBy (w2.setCell ⟨g, 2, none⟩ (.bool true)) (some g) := gset w2 ⟨g, 2, none⟩ (.bool true)
    have hS3 := hS7.put (p := p) (bad := true) hg3 (blk_set hBR 2 _)
    have hB3 := blk_grown hB2 hg3 (by simp; omega)
    have hG3 := gtrans hG2 hg3
    clear r0 r1 r2 fr2 hBR hltr hS7 hB2 hG2 hg3 ho7'
    generalize w2.setCell ⟨g, 2, none⟩ (.bool true) = w3 at *
    have hst := run_storeAt_blk (P := Try.prog) w3 W.heap.size 91 91 _ #[.int .i64 0, .int .i64 0, .int .i64 0, .int .i64 0, .int .i64 0, .int .i64 0, .int .i64 0, .int .i64 0, .int .i64 0, .int .i64 0, .int .i64 0, .int .i64 0, .int .i64 0, .int .i64 0, .int .i64 0, .int .i64 0, .int .i64 0, .int .i64 0, .int .i64 0, .slice none 0 0] hB3 thr_size rfl (by simp [Value.oneCell'])
    go_wp2_with first | refine wpList_store_run rfl 91 (.tmp 2) (.tmp 13) rfl _ _ _ rfl rfl hst ?_
    have hB4 := setRow_heap w3 W.heap.size _ #[.int .i64 0, .int .i64 0, .int .i64 0, .int .i64 0, .int .i64 0, .int .i64 0, .int .i64 0, .int .i64 0, .int .i64 0, .int .i64 0, .int .i64 0, .int .i64 0, .int .i64 0, .int .i64 0, .int .i64 0, .int .i64 0, .int .i64 0, .int .i64 0, .int .i64 0, .slice none 0 0] _ _ hB3
    have hg4 := gsetRow w3 W.heap.size #[.int .i64 0, .int .i64 0, .int .i64 0, .int .i64 0, .int .i64 0, .int .i64 0, .int .i64 0, .int .i64 0, .int .i64 0, .int .i64 0, .int .i64 0, .int .i64 0, .int .i64 0, .int .i64 0, .int .i64 0, .int .i64 0, .int .i64 0, .int .i64 0, .int .i64 0, .slice none 0 0]
    have hS4 := hS3.far hg4 (by simp; omega) (fun k e => by cases e; have := hS.ext.size; omega)
    have hG4 := gnew hG3 hg4 (fun k e => by cases e; omega)
    clear hst hS3 hB3 hG3 hg4
    generalize w3.setRow W.heap.size #[.int .i64 0, .int .i64 0, .int .i64 0, .int .i64 0, .int .i64 0, .int .i64 0, .int .i64 0, .int .i64 0, .int .i64 0, .int .i64 0, .int .i64 0, .int .i64 0, .int .i64 0, .int .i64 0, .int .i64 0, .int .i64 0, .int .i64 0, .int .i64 0, .int .i64 0, .slice none 0 0] = w4 at *
    have hld := run_loadVar_row (P := Try.prog) w4 W.heap.size 91 91 _ (0, 0) _ hB4 Try.underlying91 rfl thr_size
    refine bodyPost_ret (v := .agg #[.int .i64 0, .int .i64 0, .int .i64 0, .int .i64 0, .int .i64 0, .int .i64 0, .int .i64 0, .int .i64 0, .int .i64 0, .int .i64 0, .int .i64 0, .int .i64 0, .int .i64 0, .int .i64 0, .int .i64 0, .int .i64 0, .int .i64 0, .int .i64 0, .int .i64 0, .slice none 0 0]) (by simp [results, Try.results60, Act.put, asAddr, hld]) rfl ?_
    exact ⟨thrZ, (.slice none 0 0), none, rfl, by simp [thrZ], OwnV.nil _, hS4, .inr ⟨HI.out, rfl⟩, thrZ_ok, by simp [thrZ], hG4⟩
  have e9 : ((l.length : Int) == 19) = true := by simp; omega
  have HI7 := Lib.hid (ex_of hI7 (by omega))
  have HO7 := Lib.hid hok7
  obtain ⟨gz, cz', ez, hgz, hgzlt⟩ := ho7.form (by omega)
  injection ez with ez1 _ ez2
  subst ez1 ez2
  simp only [hl19] at ho7 ho7' hcz ⊢
  clear hI7 hok7 hl7 hg7 hB1 hS1 ho7
  have ho7 := ho7'
  obtain ⟨a0, a1, a2, regs, rfl, hregs⟩ := list3 hl19
  clear hl19 ho7'
  go_wp2_with fail
  refine wp_region_X #[true, true, true, true, true, true, true, true, true, true, true, true, false] 12 1 (by kernel_rfl) rfl ?_
  refine wpX_f 11 (.cells #[.int .i64 0, .int .i64 0, .int .i64 0, .int .i64 0, .int .i64 0, .int .i64 0, .int .i64 0, .int .i64 0, .int .i64 0, .int .i64 0, .int .i64 0, .int .i64 0, .int .i64 0, .int .i64 0, .int .i64 0, .int .i64 0, .int .i64 0, .int .i64 0, .int .i64 0, .slice none 0 0] 91 (0, 0)) rfl rfl (by kernel_rfl) (by kernel_rfl) (by kernel_rfl) (fun _ _ _ _ h => h) rfl (fun a w => by go_simp) (w2.heap.size) (Nat.le_refl _) (by kernel_rfl) ?_
  refine wpX_v 0 (.slice (some ⟨gz, 0, none⟩) 19 cz) rfl rfl (by kernel_rfl) (by kernel_rfl) (by kernel_rfl) (fun _ _ _ _ h => h) (by kernel_rfl) rfl (by rfl) (fun W' hW => by
    skip
    go_simp) ?_
  simp only [List.setIfInBounds_toArray, List.set_cons_zero, List.set_cons_succ]
  refine wpX_v 1 (.pointer (some ⟨gz, 0, none⟩)) rfl rfl (by kernel_rfl) (by kernel_rfl) (by kernel_rfl) (fun _ _ _ _ h => h) (by kernel_rfl) rfl (by rfl) (fun W' hW => by
    skip
    go_simp) ?_
  simp only [List.setIfInBounds_toArray, List.set_cons_zero, List.set_cons_succ]
  refine wpX_v 2 (.int .i64 a0) rfl rfl (by kernel_rfl) (by kernel_rfl) (by kernel_rfl) (fun _ _ _ _ h => h) (by kernel_rfl) rfl (by rfl) (fun W' hW => by
    obtain ⟨x0, _⟩ := (ho7.ext (((Ext.refl w2).drew).trans hW)).at_ (by simp; omega) 0 (by simp)
    obtain ⟨x1, _⟩ := (ho7.ext (((Ext.refl w2).drew).trans hW)).at_ (by simp; omega) 1 (by simp)
    obtain ⟨x2, _⟩ := (ho7.ext (((Ext.refl w2).drew).trans hW)).at_ (by simp; omega) 2 (by simp)
    simp only [iv, List.getElem_cons_zero, List.getElem_cons_succ] at x0 x1 x2
    go_simp) ?_
  simp only [List.setIfInBounds_toArray, List.set_cons_zero, List.set_cons_succ]
  refine wpX_v 3 (.slice (some ⟨gz, 0, none⟩) 19 cz) rfl rfl (by kernel_rfl) (by kernel_rfl) (by kernel_rfl) (fun _ _ _ _ h => h) (by kernel_rfl) rfl (by rfl) (fun W' hW => by
    skip
    go_simp) ?_
  simp only [List.setIfInBounds_toArray, List.set_cons_zero, List.set_cons_succ]
  refine wpX_v 4 (.pointer (some ⟨gz, 1, none⟩)) rfl rfl (by kernel_rfl) (by kernel_rfl) (by kernel_rfl) (fun _ _ _ _ h => h) (by kernel_rfl) rfl (by rfl) (fun W' hW => by
    skip
    go_simp) ?_
  simp only [List.setIfInBounds_toArray, List.set_cons_zero, List.set_cons_succ]
  refine wpX_v 5 (.int .i64 a1) rfl rfl (by kernel_rfl) (by kernel_rfl) (by kernel_rfl) (fun _ _ _ _ h => h) (by kernel_rfl) rfl (by rfl) (fun W' hW => by
    obtain ⟨x0, _⟩ := (ho7.ext (((Ext.refl w2).drew).trans hW)).at_ (by simp; omega) 0 (by simp)
    obtain ⟨x1, _⟩ := (ho7.ext (((Ext.refl w2).drew).trans hW)).at_ (by simp; omega) 1 (by simp)
    obtain ⟨x2, _⟩ := (ho7.ext (((Ext.refl w2).drew).trans hW)).at_ (by simp; omega) 2 (by simp)
    simp only [iv, List.getElem_cons_zero, List.getElem_cons_succ] at x0 x1 x2
    go_simp) ?_
  simp only [List.setIfInBounds_toArray, List.set_cons_zero, List.set_cons_succ]
  refine wpX_v 6 (.slice (some ⟨gz, 0, none⟩) 19 cz) rfl rfl (by kernel_rfl) (by kernel_rfl) (by kernel_rfl) (fun _ _ _ _ h => h) (by kernel_rfl) rfl (by rfl) (fun W' hW => by
    skip
    go_simp) ?_
  simp only [List.setIfInBounds_toArray, List.set_cons_zero, List.set_cons_succ]
  refine wpX_v 7 (.pointer (some ⟨gz, 2, none⟩)) rfl rfl (by kernel_rfl) (by kernel_rfl) (by kernel_rfl) (fun _ _ _ _ h => h) (by kernel_rfl) rfl (by rfl) (fun W' hW => by
    skip
    go_simp) ?_
  simp only [List.setIfInBounds_toArray, List.set_cons_zero, List.set_cons_succ]
  refine wpX_v 8 (.int .i64 a2) rfl rfl (by kernel_rfl) (by kernel_rfl) (by kernel_rfl) (fun _ _ _ _ h => h) (by kernel_rfl) rfl (by rfl) (fun W' hW => by
    obtain ⟨x0, _⟩ := (ho7.ext (((Ext.refl w2).drew).trans hW)).at_ (by simp; omega) 0 (by simp)
    obtain ⟨x1, _⟩ := (ho7.ext (((Ext.refl w2).drew).trans hW)).at_ (by simp; omega) 1 (by simp)
    obtain ⟨x2, _⟩ := (ho7.ext (((Ext.refl w2).drew).trans hW)).at_ (by simp; omega) 2 (by simp)
    simp only [iv, List.getElem_cons_zero, List.getElem_cons_succ] at x0 x1 x2
    go_simp) ?_
  simp only [List.setIfInBounds_toArray, List.set_cons_zero, List.set_cons_succ]
  refine wpX_v 9 (.agg #[.int .i64 0, .int .i64 0, .int .i64 0, .int .i64 0, .int .i64 0, .int .i64 0, .int .i64 0, .int .i64 0, .int .i64 0, .int .i64 0, .int .i64 0, .int .i64 0, .int .i64 0, .int .i64 0, .int .i64 0, .int .i64 0, .int .i64 a2]) rfl rfl (by kernel_rfl) (by kernel_rfl) (by kernel_rfl) (fun _ _ _ _ h => h) (by kernel_rfl) rfl (by rfl) (fun W' hW => by
    skip
    go_simp) ?_
  simp only [List.setIfInBounds_toArray, List.set_cons_zero, List.set_cons_succ]
  refine wpX_v 10 (.agg #[.int .i64 a0, .int .i64 0, .int .i64 0, .int .i64 0, .int .i64 0, .int .i64 0, .int .i64 0, .int .i64 0, .int .i64 0, .int .i64 0, .int .i64 0, .int .i64 0, .int .i64 0, .int .i64 0, .int .i64 0, .int .i64 0, .int .i64 0, .int .i64 a2, .int .i64 a1, .slice none 0 0]) rfl rfl (by kernel_rfl) (by kernel_rfl) (by kernel_rfl) (fun _ _ _ _ h => h) (by kernel_rfl) rfl (by rfl) (fun W' hW => by
    skip
    go_simp) ?_
  simp only [List.setIfInBounds_toArray, List.set_cons_zero, List.set_cons_succ]
  refine wpX_end rfl fun W8 hW8 => Land.mk fun gt hgt hC => tail_seq 12 rfl (by kernel_rfl) ?_
  simp only [List.drop_succ_cons, List.drop_zero, List.setIfInBounds_toArray, List.set_cons_zero, List.set_cons_succ]
  have hX8 := ((Ext.refl w2).drew).trans hW8
  have hst := run_storeAt_blk (P := Try.prog) W8 gt 91 91 _ #[.int .i64 a0, .int .i64 0, .int .i64 0, .int .i64 0, .int .i64 0, .int .i64 0, .int .i64 0, .int .i64 0, .int .i64 0, .int .i64 0, .int .i64 0, .int .i64 0, .int .i64 0, .int .i64 0, .int .i64 0, .int .i64 0, .int .i64 0, .int .i64 a2, .int .i64 a1, .slice none 0 0] hC thr_size rfl (by simp [Value.oneCell'])
  go_wp2_with first | refine wpList_store_run rfl 91 (.tmp 4) (.tmp 24) rfl _ _ _ rfl rfl hst ?_
  refine NoPanic.normal ?_
  have hK9 : ThrBlk (W8.setRow gt #[.int .i64 a0, .int .i64 0, .int .i64 0, .int .i64 0, .int .i64 0, .int .i64 0, .int .i64 0, .int .i64 0, .int .i64 0, .int .i64 0, .int .i64 0, .int .i64 0, .int .i64 0, .int .i64 0, .int .i64 0, .int .i64 0, .int .i64 0, .int .i64 a2, .int .i64 a1, .slice none 0 0]) gt ⟨a0, List.replicate 16 0, a2, a1, []⟩ (.slice none 0 0) := setRow_heap W8 gt _ _ _ _ hC
  have hg8 := gsetRow W8 gt #[.int .i64 a0, .int .i64 0, .int .i64 0, .int .i64 0, .int .i64 0, .int .i64 0, .int .i64 0, .int .i64 0, .int .i64 0, .int .i64 0, .int .i64 0, .int .i64 0, .int .i64 0, .int .i64 0, .int .i64 0, .int .i64 0, .int .i64 0, .int .i64 a2, .int .i64 a1, .slice none 0 0]
  have hS9 := (hS7.grow hX8).far hg8 (by simp; omega) (fun k e => by cases e; have := hS.ext.size; omega)
  have hB9 := blk_grown (hX8.heap hB2) hg8 (by simp; omega)
  have hG9 := gnew (gtrans hG2 (hX8.grownBy _)) hg8 (fun k e => by cases e; omega)
  have ho9 := (ho7.ext hX8).kept hg8 (.inr ((ho7.ext hX8).ne_blk hC (by decide)))
  clear hst hS7 hB2 ho7 hg8 hC hX8 hW8 hG2
  generalize W8.setRow gt #[.int .i64 a0, .int .i64 0, .int .i64 0, .int .i64 0, .int .i64 0, .int .i64 0, .int .i64 0, .int .i64 0, .int .i64 0, .int .i64 0, .int .i64 0, .int .i64 0, .int .i64 0, .int .i64 0, .int .i64 0, .int .i64 0, .int .i64 0, .int .i64 a2, .int .i64 a1, .slice none 0 0] = w9 at *
  obtain ⟨i0, hi0, _, hi1, _⟩ := info_parts int_info
  have hsl : ∀ W, (Instr.slice 26 (.slice (some ⟨gz, 0, none⟩) 19 cz) (some (.int .i64 3)) none none).run Try.prog W = .ok (.slice (some ⟨gz, 3, none⟩) 16 (cz - 3)) W := fun W => by
    have := run_slice_l Try.underlying26 hi0 (some ⟨gz, 0, none⟩) 19 cz 3 (by omega) W
    rw [hi1, if_neg (by omega)] at this
    exact this
  go_wp2_with fail
  refine wp_region_X #[true, true, true, true, true, false] 5 1 (by kernel_rfl) rfl ?_
  refine wpX_vt 0 (.pointer (some ⟨gt, 1, none⟩)) rfl rfl (by kernel_rfl) (by kernel_rfl) (by kernel_rfl) (fun _ _ _ _ h => h) (by kernel_rfl) rfl (by rfl) (fun W' hW => by
    skip
    go_simp) ?_
  simp only [List.setIfInBounds_toArray, List.set_cons_zero, List.set_cons_succ]
  refine wpX_vt 1 (.pointer (some ⟨gt, 1, none⟩)) rfl rfl (by kernel_rfl) (by kernel_rfl) (by kernel_rfl) (fun _ _ _ _ h => h) (by kernel_rfl) rfl (by rfl) (fun W' hW => by
    skip
    go_simp) ?_
  simp only [List.setIfInBounds_toArray, List.set_cons_zero, List.set_cons_succ]
  refine wpX_vt 2 (.slice (some ⟨gt, 1, none⟩) 16 16) rfl rfl (by kernel_rfl) (by kernel_rfl) (by kernel_rfl) (fun _ _ _ _ h => h) (by kernel_rfl) rfl (by rfl) (fun W' hW => by
    skip
    go_simp) ?_
  simp only [List.setIfInBounds_toArray, List.set_cons_zero, List.set_cons_succ]
  refine wpX_vt 3 (.slice (some ⟨gz, 0, none⟩) 19 cz) rfl rfl (by kernel_rfl) (by kernel_rfl) (by kernel_rfl) (fun _ _ _ _ h => h) (by kernel_rfl) rfl (by rfl) (fun W' hW => by
    skip
    go_simp) ?_
  simp only [List.setIfInBounds_toArray, List.set_cons_zero, List.set_cons_succ]
  refine wpX_vt 4 (.slice (some ⟨gz, 3, none⟩) 16 (cz - 3)) rfl rfl (by kernel_rfl) (by kernel_rfl) (by kernel_rfl) (fun _ _ _ _ h => h) (by kernel_rfl) rfl (by rfl) (fun W' hW => by
    skip
    go_simp) ?_
  simp only [List.setIfInBounds_toArray, List.set_cons_zero, List.set_cons_succ]
  refine wpX_end rfl fun W10 hW10 => tail_seq 5 rfl (by kernel_rfl) ?_
  simp only [List.drop_succ_cons, List.drop_zero]
  have hX10 := ((Ext.refl w9).drew).trans hW10
  have hK10 : ThrBlk W10 gt ⟨a0, List.replicate 16 0, a2, a1, []⟩ (.slice none 0 0) := hX10.heap hK9
  have ho10 := ho9.ext hX10
  have hcp := run_copy_cells (P := Try.prog) W10 26 26 3 3 gt 1 16 16 ⟨gz, 3, none⟩ 16 (cz - 3) (regs.map iv) Try.underlying26 (by rw [hi0]; simp [hi1]) (by simp [hregs])
    (fun j v hv => by
      obtain ⟨_, _, e, _, hrd⟩ := ho10.inV
      injection e with e1
      rw [← e1] at hrd
      obtain ⟨ad, e2, hc⟩ := hrd.drop 3 j v hv
      cases e2
      exact hc)
    (fun j hj => by
      have hj' : j < 16 := by simpa [hregs] using hj
      have hlen := thr_len (z := ((⟨a0, List.replicate 16 0, a2, a1, []⟩ : Thr), (.slice none 0 0))) (by simp)
      rw [blk_at hK10 (1 + j) _ (by rw [List.getElem?_toArray, List.getElem?_eq_getElem (by omega)])]
      rfl)
    (fun j _ => blk_free hK10 _) (fun v hv => by
      obtain ⟨x, _, rfl⟩ := List.mem_map.1 hv
      rfl)
  go_wp2_with (at_builtin; go_must (refine Lib.wpList_copy_run _ rfl (.tmp 27) (.tmp 29) 26 26 rfl _ _ rfl rfl hcp ?_))
  refine NoPanic.normal ?_
  obtain ⟨hK11, hg11⟩ := hK10.setRegs (by simp) regs hregs
  have hS11 := (hS9.grow hX10).far hg11 (by simp; omega) (fun k e => by cases e; have := hS.ext.size; omega)
  have hB11 := blk_grown (hX10.heap hB9) hg11 (by simp; omega)
  have hG11 := gnew (gtrans hG9 (hX10.grownBy _)) hg11 (fun k e => by cases e; omega)
  simp only at hK11
  clear hcp hsl hi0 hi1 hK10 hK9 ho10 ho9 hS9 hB9 hg11 hX10 hW10 hG9
  generalize W10.setCells gt 1 (regs.map iv) = w11 at *
  go_wp2_with fail
  refine (rfList_any w0 w11 g y b st7 4 (by omega) (by omega) hS11 hl).mono ?_
  rintro e w12 ⟨z12, args, st12, rfl, ho12, hS12, hI12, hl12, hok12, hg12⟩
  obtain ⟨Az, caz, rfl, _, _⟩ := ho12.inV
  have HI12 := Lib.hid hI12
  have HO12 := Lib.hid hok12
  have hK12 : ThrBlk w12 gt ⟨a0, regs, a2, a1, []⟩ (.slice none 0 0) := blk_grown hK11 hg12 (by simp; omega)
  have hB12 := blk_grown hB11 hg12 (by simp; omega)
  have hG12 := gtrans hG11 hg12
  have ho12' := ho12.low (base' := W.heap.size) hG11.size
  obtain ⟨⟨_, k19⟩, _, fz19⟩ := hK12.cells hregs
  have hltgt := World.block_lt_of_cell? _ _ k19
  simp only at hltgt
  clear hI12 hok12 hg12 hK11 hB11 hG11 ho12 hS11
  go_upto_region 8 with fail
  have hg13 : w12.grownBy (w12.setCell ⟨gt, 19, none⟩ (Value.slice Az args.length caz)) (some gt) := gset w12 ⟨gt, 19, none⟩ (Value.slice Az args.length caz)
  have hK13 := hK12.setArgs hregs (Value.slice Az args.length caz) args
  have hS13 := hS12.far hg13 (by simp; omega) (fun k e => by cases e; have := hS.ext.size; omega)
  have hB13 := blk_grown hB12 hg13 (by simp; omega)
  have hG13 := gnew hG12 hg13 (fun k e => by cases e; omega)
  have ho13 := ho12'.kept hg13 (.inr (ho12'.ne_blk hK12 (by decide)))
  clear hS12 hB12 hK12 hg13 ho12' k19 fz19 hltgt hG12
  generalize w12.setCell ⟨gt, 19, none⟩ (Value.slice Az args.length caz) = w13 at *
  simp only at hK13
  obtain ⟨t, ht⟩ : ∃ t : Thr, t = ⟨a0, regs, a2, a1, args⟩ := ⟨_, rfl⟩
  rw [← ht] at hK13
  have hreg : t.regs.length = 16 := by rw [ht]; exact hregs
  have hat : OwnV iv 3 W.heap.size w13 (Value.slice Az args.length caz) t.args := by rw [ht]; exact ho13
  have HTE : Hid (t = thrOf (a0 :: a1 :: a2 :: regs) args) := Lib.hid ht
  have hta : t.args = args := by rw [ht]
  have hti : ThrIn w13 (t, (Value.slice Az args.length caz)) := ⟨hreg, hat.inV⟩
  obtain ⟨cs, hcs⟩ : ∃ cs, cs = (thrCells (t, (Value.slice Az args.length caz))).toArray := ⟨_, rfl⟩
  have hcl : cs.size = 20 := by rw [hcs, List.size_toArray]; exact thr_len (z := (t, _)) hreg
  have hone : cs.all (·.oneCell') = true := by rw [hcs]; exact all_oneCell_toArray hti.one
  unfold ThrBlk at hK13
  rw [← hcs] at hK13
  have hld := run_loadAt_blk (P := Try.prog) w13 gt 91 91 cs (0, 0) _ hK13 Try.underlying91 rfl (by rw [hcl]; exact thr_size)
  have hst := run_storeAt_blk (P := Try.prog) w13 W.heap.size 91 91 _ cs hB13 (by rw [hcl]; exact thr_size) (by rw [hcl]; rfl) hone
  have HTA := Lib.hid hta
  have HCS := Lib.hid hcs
  clear ht hcs ho13 hti hta
  go_wp2_with first | refine wpList_load_run rfl 91 (.tmp 4) rfl _ _ rfl hld ?_ | refine wpList_store_run rfl 91 (.tmp 2) (.tmp 34) rfl _ _ _ rfl rfl hst ?_
  have hB14 := setRow_heap w13 W.heap.size _ cs _ _ hB13
  have hg14 := gsetRow w13 W.heap.size cs
  have hS14 := hS13.far hg14 (by simp; omega) (fun k e => by cases e; have := hS.ext.size; omega)
  have hG14 := gnew hG13 hg14 (fun k e => by cases e; omega)
  have ho14 := hat.kept hg14 (.inr (hat.ne_blk hB13 (by decide)))
  clear hst hld hS13 hB13 hG13 hg14 hK13 hat
  generalize w13.setRow W.heap.size cs = w14 at *
  have hld := run_loadVar_row (P := Try.prog) w14 W.heap.size 91 91 cs (0, 0) _ hB14 Try.underlying91 rfl (by rw [hcl]; exact thr_size)
  refine bodyPost_ret (v := .agg cs) (by simp [results, Try.results60, Act.put, asAddr, hld]) rfl ?_
  obtain ⟨ok1, _⟩ := thrOf_ok (l := a0 :: a1 :: a2 :: regs) (args := args) (by simp [hregs]) HO7.out HO12.out
  refine ⟨t, (Value.slice Az args.length caz), st12, by rw [HCS.out], hreg, ho14, hS14, .inl ⟨a0 :: a1 :: a2 :: regs, st7, HI7.out, by rw [HTA.out]; exact HI12.out, by rw [HTA.out]; exact HTE.out, by simp [hregs]⟩, by rw [HTE.out]; exact ok1, by rw [HTA.out]; omega, hG14⟩
end Go.Proofs.Ytoeibcpjmoekpaa
