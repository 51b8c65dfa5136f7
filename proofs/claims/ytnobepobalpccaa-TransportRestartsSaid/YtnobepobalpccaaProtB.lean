/- The link of the statements about the transport: fates, damage, Send. -/
import Derived.Test.YtnobepobalpccaaRowsR
namespace Go.Proofs.Ytnobepobalpccaa
open Go.RowKit
set_option linter.unusedVariables false

theorem elem_int : Elem1 Try.prog 22 3 8 := by
  obtain ⟨i0, hi, hz0, hz1, hz2⟩ := info_parts int_info
  exact ⟨Try.underlying22, i0, _, hi, hz0, hz1, hz2, rfl⟩
/-- what happens to a datagram -/
structure Fate where
  delays : List Int
  at_ : Int
  mask : Int
def fateCells (z : Fate × Value) : List Value := [z.2, .int .i64 z.1.at_, .int .i64 z.1.mask]
def FatesIn (w : World) (v : Value) (l : List Fate) : Prop := ∃ zs : List (Fate × Value), zs.map Prod.fst = l ∧ InR fateCells w v zs ∧ ∀ z ∈ zs, InI w z.2 z.1.delays
def fate1 : Fate := ⟨[1], 0, 0⟩
def fateOf (l : List Fate) (n : Int) : Fate := if 0 ≤ n then (l[n.toNat]?).getD fate1 else fate1
theorem fateOf_some {l : List Fate} {k : Nat} (h : k < l.length) : fateOf l (k : Int) = l[k] := by
  rw [fateOf, if_pos (by omega)]
  simp [h]
theorem fateOf_none {l : List Fate} {n : Int} (h : ¬ (0 ≤ n ∧ n < l.length)) : fateOf l n = fate1 := by
  unfold fateOf
  split
  · rw [List.getElem?_eq_none (by omega)]; rfl
  · rfl
theorem ft_size : (Try.prog.info? 44).map (·.size) = some 3 := by kernel_rfl
def FatePost (f : Fate) (w : World) (en : Ending) (w' : World) : Prop := ∃ y, en = .returned (.agg #[y, .int .i64 f.at_, .int .i64 f.mask]) ∧ OwnV iv 3 w.heap.size w' y f.delays ∧ Ext w w'
theorem blk3 {w : World} {g : Nat} {a b c : Value} {t : TypeId} (H : w.heap[g]? = some (.cells #[a, b, c] t (0, 0))) :
    w.cell? ⟨g, 0, none⟩ = some a ∧ w.cell? ⟨g, 1, none⟩ = some b ∧ w.cell? ⟨g, 2, none⟩ = some c := ⟨blk_at H 0 _ rfl, blk_at H 1 _ rfl, blk_at H 2 _ rfl⟩
set_option maxHeartbeats 1000000 in
set_option maxRecDepth 100000 in
theorem FateOf_any (x : Value) (l : List Fate) (n : Int) (w : World) (hx : FatesIn w x l) (hd : ∀ f ∈ l, f.delays.length ≤ 1000000) :
    Calls Try.prog 17 #[x, .int .i64 n] w (FatePost (fateOf l n) w) := by
  obtain ⟨zs, hz, ⟨A, c, rfl, hcap, hr⟩, hzs⟩ := hx
  have hzl : zs.length = l.length := by rw [← hz]; simp
  go_enter Try.func17, Try.ntmps17
  go_upto_region 1 with fail
  have hB := heap_alloc_new w (.cells #[.slice none 0 0, .int .i64 0, .int .i64 0] 44)
  have hE := (Ext.refl w).alloc (.cells #[.slice none 0 0, .int .i64 0, .int .i64 0] 44)
  generalize w.alloc (.cells #[.slice none 0 0, .int .i64 0, .int .i64 0] 44) = W at *
  by_cases h : 0 ≤ n ∧ n < l.length
  · obtain ⟨k, rfl⟩ : ∃ k : Nat, n = k := ⟨n.toNat, by omega⟩
    have hk : k < zs.length := by omega
    have h1 : (0 : Int) ≤ (k : Int) := by omega
    have h2 : (k : Int) < (zs.length : Int) := by omega
    have HF : Hid (fateOf l (k : Int) = zs[k].1) := Lib.hid (by rw [fateOf_some (by omega)]; simp [← hz])
    have hdl : zs[k].1.delays.length ≤ 1000000 := hd _ (by rw [← hz]; exact List.mem_map_of_mem (List.getElem_mem hk))
    obtain ⟨b, off, rfl, hrg⟩ := InR.at_ (k := 3) (f := fateCells) (w := w) ⟨A, c, rfl, hcap, hr⟩ (fun _ _ => rfl) (by omega) hk
    have hin := hzs _ (List.getElem_mem hk)
    generalize zs[k] = zk at *
    obtain ⟨⟨ds, fa, fm⟩, yv⟩ := zk
    have c0 := hE.cell (hrg 0 _ rfl)
    have c1 := hE.cell (hrg 1 _ rfl)
    have c2 := hE.cell (hrg 2 _ rfl)
    try simp only [Nat.add_zero] at c0
    try simp only at hin
    try simp only at hdl
    obtain ⟨Y, cy, rfl, _, _⟩ := id hin
    have hinW := hin.ext hE
    clear h hk hd hrg hzs hr hz
    go_upto_region 2 with fail
    have hS : EtS 18 W.drew (upF [18] #[false, false, false, false, false, false, false, false, false, false, false, false, false, false, false, false, false, false, false]) W.drew := fun _ => Ext.refl _
    refine wp_region_V [18] (EtS 18 W.drew) 19 #[false, false, false, false, false, false, false, false, false, false, false, false, false, false, false, false, false, false, false] (by kernel_rfl) rfl (by kernel_rfl) ?_
    refine wpV_v 1 (.slice (some ⟨b, off, none⟩) zs.length c) rfl rfl (by kernel_rfl) (by kernel_rfl) (by kernel_rfl) (fun _ _ _ _ h => h) (by kernel_rfl) hS rfl (fun W' f hW hf => by
      skip
      go_simp) (fun hS' => ?_)
    replace hS := hS'; clear hS'
    simp only [List.setIfInBounds_toArray, List.set_cons_zero, List.set_cons_succ] at hS ⊢
    refine wpV_v 2 (.int .i64 (k : Int)) rfl rfl (by kernel_rfl) (by kernel_rfl) (by kernel_rfl) (fun _ _ _ _ h => h) (by kernel_rfl) hS rfl (fun W' f hW hf => by
      skip
      go_simp) (fun hS' => ?_)
    replace hS := hS'; clear hS'
    simp only [List.setIfInBounds_toArray, List.set_cons_zero, List.set_cons_succ] at hS ⊢
    refine wpV_v 3 (.pointer (some ⟨b, off + k * 3, none⟩)) rfl rfl (by kernel_rfl) (by kernel_rfl) (by kernel_rfl) (fun _ _ _ _ h => h) (by kernel_rfl) hS rfl (fun W' f hW hf => by
      skip
      go_simp) (fun hS' => ?_)
    replace hS := hS'; clear hS'
    simp only [List.setIfInBounds_toArray, List.set_cons_zero, List.set_cons_succ] at hS ⊢
    refine wpV_v 4 (.pointer (some ⟨b, off + k * 3, none⟩)) rfl rfl (by kernel_rfl) (by kernel_rfl) (by kernel_rfl) (fun _ _ _ _ h => h) (by kernel_rfl) hS rfl (fun W' f hW hf => by
      skip
      go_simp) (fun hS' => ?_)
    replace hS := hS'; clear hS'
    simp only [List.setIfInBounds_toArray, List.set_cons_zero, List.set_cons_succ] at hS ⊢
    refine wpV_v 5 (.slice Y ds.length cy) rfl rfl (by kernel_rfl) (by kernel_rfl) (by kernel_rfl) (fun _ _ _ _ h => h) (by kernel_rfl) hS rfl (fun W' f hW hf => by
      have z := (((Ext.refl W).drew).trans (hW (hf 18 rfl (by kernel_rfl)))).cell c0
      go_simp) (fun hS' => ?_)
    replace hS := hS'; clear hS'
    simp only [List.setIfInBounds_toArray, List.set_cons_zero, List.set_cons_succ] at hS ⊢
    refine wpV_v 7 (.slice (some ⟨b, off, none⟩) zs.length c) rfl rfl (by kernel_rfl) (by kernel_rfl) (by kernel_rfl) (fun _ _ _ _ h => h) (by kernel_rfl) hS rfl (fun W' f hW hf => by
      skip
      go_simp) (fun hS' => ?_)
    replace hS := hS'; clear hS'
    simp only [List.setIfInBounds_toArray, List.set_cons_zero, List.set_cons_succ] at hS ⊢
    refine wpV_v 8 (.int .i64 (k : Int)) rfl rfl (by kernel_rfl) (by kernel_rfl) (by kernel_rfl) (fun _ _ _ _ h => h) (by kernel_rfl) hS rfl (fun W' f hW hf => by
      skip
      go_simp) (fun hS' => ?_)
    replace hS := hS'; clear hS'
    simp only [List.setIfInBounds_toArray, List.set_cons_zero, List.set_cons_succ] at hS ⊢
    refine wpV_v 9 (.pointer (some ⟨b, off + k * 3, none⟩)) rfl rfl (by kernel_rfl) (by kernel_rfl) (by kernel_rfl) (fun _ _ _ _ h => h) (by kernel_rfl) hS rfl (fun W' f hW hf => by
      skip
      go_simp) (fun hS' => ?_)
    replace hS := hS'; clear hS'
    simp only [List.setIfInBounds_toArray, List.set_cons_zero, List.set_cons_succ] at hS ⊢
    refine wpV_v 10 (.pointer (some ⟨b, off + k * 3 + 1, none⟩)) rfl rfl (by kernel_rfl) (by kernel_rfl) (by kernel_rfl) (fun _ _ _ _ h => h) (by kernel_rfl) hS rfl (fun W' f hW hf => by
      skip
      go_simp) (fun hS' => ?_)
    replace hS := hS'; clear hS'
    simp only [List.setIfInBounds_toArray, List.set_cons_zero, List.set_cons_succ] at hS ⊢
    refine wpV_v 11 (.int .i64 fa) rfl rfl (by kernel_rfl) (by kernel_rfl) (by kernel_rfl) (fun _ _ _ _ h => h) (by kernel_rfl) hS rfl (fun W' f hW hf => by
      have z := (((Ext.refl W).drew).trans (hW (hf 18 rfl (by kernel_rfl)))).cell c1
      go_simp) (fun hS' => ?_)
    replace hS := hS'; clear hS'
    simp only [List.setIfInBounds_toArray, List.set_cons_zero, List.set_cons_succ] at hS ⊢
    refine wpV_v 12 (.slice (some ⟨b, off, none⟩) zs.length c) rfl rfl (by kernel_rfl) (by kernel_rfl) (by kernel_rfl) (fun _ _ _ _ h => h) (by kernel_rfl) hS rfl (fun W' f hW hf => by
      skip
      go_simp) (fun hS' => ?_)
    replace hS := hS'; clear hS'
    simp only [List.setIfInBounds_toArray, List.set_cons_zero, List.set_cons_succ] at hS ⊢
    refine wpV_v 13 (.int .i64 (k : Int)) rfl rfl (by kernel_rfl) (by kernel_rfl) (by kernel_rfl) (fun _ _ _ _ h => h) (by kernel_rfl) hS rfl (fun W' f hW hf => by
      skip
      go_simp) (fun hS' => ?_)
    replace hS := hS'; clear hS'
    simp only [List.setIfInBounds_toArray, List.set_cons_zero, List.set_cons_succ] at hS ⊢
    refine wpV_v 14 (.pointer (some ⟨b, off + k * 3, none⟩)) rfl rfl (by kernel_rfl) (by kernel_rfl) (by kernel_rfl) (fun _ _ _ _ h => h) (by kernel_rfl) hS rfl (fun W' f hW hf => by
      skip
      go_simp) (fun hS' => ?_)
    replace hS := hS'; clear hS'
    simp only [List.setIfInBounds_toArray, List.set_cons_zero, List.set_cons_succ] at hS ⊢
    refine wpV_v 15 (.pointer (some ⟨b, off + k * 3 + 2, none⟩)) rfl rfl (by kernel_rfl) (by kernel_rfl) (by kernel_rfl) (fun _ _ _ _ h => h) (by kernel_rfl) hS rfl (fun W' f hW hf => by
      skip
      go_simp) (fun hS' => ?_)
    replace hS := hS'; clear hS'
    simp only [List.setIfInBounds_toArray, List.set_cons_zero, List.set_cons_succ] at hS ⊢
    refine wpV_v 16 (.int .i64 fm) rfl rfl (by kernel_rfl) (by kernel_rfl) (by kernel_rfl) (fun _ _ _ _ h => h) (by kernel_rfl) hS rfl (fun W' f hW hf => by
      have z := (((Ext.refl W).drew).trans (hW (hf 18 rfl (by kernel_rfl)))).cell c2
      go_simp) (fun hS' => ?_)
    replace hS := hS'; clear hS'
    simp only [List.setIfInBounds_toArray, List.set_cons_zero, List.set_cons_succ] at hS ⊢
    clear hS
    have hX0 := (Ext.refl W).drew
    generalize W.drew = W0 at *
    refine wpV_1 0 (by kernel_rfl) ?_
    have hA1 := (Ext.refl W0).alloc (.cells #[] 3)
    refine op_makeD (v := .slice (some ⟨W0.heap.size, 0, none⟩) 0 0) (W' := W0.alloc (.cells #[] 3)) rfl rfl rfl (by go_simp) ⟨fun _ => hA1, ?_⟩
    simp only [List.setIfInBounds_toArray, List.set_cons_zero, List.set_cons_succ]
    refine wpV_1 6 (by kernel_rfl) ?_
    refine op_appendD (v := .slice (some ⟨W0.heap.size, 0, none⟩) 0 0) (u := .slice Y ds.length cy) (l := []) (m := ds) elem_int (fun _ => rfl) rfl rfl rfl rfl rfl rfl hA1.size (by simp; omega) (by omega) (ownV_empty W0 3) (hinW.ext (hX0.trans hA1)) ?_
    intro v3 W3 ho3 hg3
    have hE3 := hg3.ext hA1 (ownV_empty (f := iv) W0 3).ge
    have ho3' : OwnV iv 3 W0.heap.size W3 v3 ds := by simpa using ho3
    refine ⟨fun _ => hE3, ?_⟩
    obtain ⟨Z, cz, rfl, _, _⟩ := ho3'.inV
    simp only [List.setIfInBounds_toArray, List.set_cons_zero, List.set_cons_succ]
    have hS : EtS 18 W0 (upF [18] #[true, true, true, true, true, true, true, true, true, true, true, true, true, true, true, true, true, false, false]) W3 := fun _ => hE3
    refine wpV_v 17 (.agg #[.slice Z ds.length cz, .int .i64 fa, .int .i64 fm]) rfl rfl (by kernel_rfl) (by kernel_rfl) (by kernel_rfl) (fun _ _ _ _ h => h) (by kernel_rfl) hS rfl (fun W' f hW hf => by
      skip
      go_simp) (fun hS' => ?_)
    replace hS := hS'; clear hS'
    simp only [List.setIfInBounds_toArray, List.set_cons_zero, List.set_cons_succ] at hS ⊢
    have hX3 := hE.trans (hX0.trans hE3)
    have hB3 := (hX0.trans hE3).heap hB
    have hst := run_storeAt_blk (P := Try.prog) W3 w.heap.size 44 44 _ #[.slice Z ds.length cz, .int .i64 fa, .int .i64 fm] hB3 ft_size rfl (by simp [Value.oneCell'])
    refine wpV_1 18 (by kernel_rfl) ?_
    refine op_skip rfl rfl rfl (exec_store 44 (.tmp 4) (.tmp 30) rfl _ _ _ rfl rfl hst) ⟨(fun h => by cases h), ?_⟩
    simp only [List.setIfInBounds_toArray, List.set_cons_zero, List.set_cons_succ]
    refine wpV_end (by kernel_rfl) ?_
    refine NoPanic.normal ?_
    have hZ9 := setRow_heap W3 w.heap.size _ #[.slice Z ds.length cz, .int .i64 fa, .int .i64 fm] _ _ hB3
    have hg9 := gsetRow W3 w.heap.size #[.slice Z ds.length cz, .int .i64 fa, .int .i64 fm]
    have hE9 := hX3.grown hg9 (fun k e => by cases e; exact Nat.le_refl _)
    have ho9 := (ho3'.low (hE.trans hX0).size).kept hg9 (.inr (ho3'.ne_blk hB3 (by decide)))
    clear hst hg9 hS
    generalize W3.setRow w.heap.size #[.slice Z ds.length cz, .int .i64 fa, .int .i64 fm] = w9 at *
    go_wp2_with fail
    obtain ⟨k0, k1, k2⟩ := blk3 hZ9
    refine bodyPost_ret (v := .agg #[.slice Z ds.length cz, .int .i64 fa, .int .i64 fm]) (by simp [results, Try.results17, go_sem, k0, k1, k2]) rfl ?_
    exact ⟨_, by rw [HF.out], by rw [HF.out]; exact ho9, hE9⟩
  · have HF : Hid (fateOf l n = fate1) := Lib.hid (fateOf_none h)
    by_cases h0 : 0 ≤ n
    · have h1 : ¬ n < (zs.length : Int) := fun h' => h ⟨h0, by omega⟩
      clear h
      go_upto_region 3 with fail
      have hn1 := OwnV_new (f := iv) W 1 3
      have hA1 := (Ext.refl W).alloc (.cells #[.int .i64 1] 3)
      have hB3 := hA1.heap hB
      have hst := run_storeAt_blk (P := Try.prog) (W.alloc (.cells #[.int .i64 1] 3)) w.heap.size 44 44 _ #[.slice (some ⟨W.heap.size, 0, none⟩) 1 1, .int .i64 0, .int .i64 0] hB3 ft_size rfl (by simp [Value.oneCell'])
      go_wp2_with first | refine wpList_store_run rfl 44 (.tmp 4) (.tmp 32) rfl _ _ _ rfl rfl hst ?_
      have hZ9 := setRow_heap (W.alloc (.cells #[.int .i64 1] 3)) w.heap.size _ #[.slice (some ⟨W.heap.size, 0, none⟩) 1 1, .int .i64 0, .int .i64 0] _ _ hB3
      have hg9 := gsetRow (W.alloc (.cells #[.int .i64 1] 3)) w.heap.size #[.slice (some ⟨W.heap.size, 0, none⟩) 1 1, .int .i64 0, .int .i64 0]
      have hE9 := (hE.trans hA1).grown hg9 (fun k e => by cases e; exact Nat.le_refl _)
      have ho9 := (OwnV.low (f := iv) (l := [1]) hn1 hE.size).kept hg9 (.inr (OwnV.ne_blk (f := iv) (l := [1]) hn1 hB3 (by decide)))
      clear hst hg9
      generalize (W.alloc (.cells #[.int .i64 1] 3)).setRow w.heap.size #[.slice (some ⟨W.heap.size, 0, none⟩) 1 1, .int .i64 0, .int .i64 0] = w9 at *
      obtain ⟨k0, k1, k2⟩ := blk3 hZ9
      refine bodyPost_ret (v := .agg #[.slice (some ⟨W.heap.size, 0, none⟩) 1 1, .int .i64 0, .int .i64 0]) (by simp [results, Try.results17, go_sem, k0, k1, k2]) rfl ?_
      exact ⟨_, by rw [HF.out]; rfl, by rw [HF.out]; exact ho9, hE9⟩
    · clear h
      go_upto_region 3 with fail
      have hn1 := OwnV_new (f := iv) W 1 3
      have hA1 := (Ext.refl W).alloc (.cells #[.int .i64 1] 3)
      have hB3 := hA1.heap hB
      have hst := run_storeAt_blk (P := Try.prog) (W.alloc (.cells #[.int .i64 1] 3)) w.heap.size 44 44 _ #[.slice (some ⟨W.heap.size, 0, none⟩) 1 1, .int .i64 0, .int .i64 0] hB3 ft_size rfl (by simp [Value.oneCell'])
      go_wp2_with first | refine wpList_store_run rfl 44 (.tmp 4) (.tmp 32) rfl _ _ _ rfl rfl hst ?_
      have hZ9 := setRow_heap (W.alloc (.cells #[.int .i64 1] 3)) w.heap.size _ #[.slice (some ⟨W.heap.size, 0, none⟩) 1 1, .int .i64 0, .int .i64 0] _ _ hB3
      have hg9 := gsetRow (W.alloc (.cells #[.int .i64 1] 3)) w.heap.size #[.slice (some ⟨W.heap.size, 0, none⟩) 1 1, .int .i64 0, .int .i64 0]
      have hE9 := (hE.trans hA1).grown hg9 (fun k e => by cases e; exact Nat.le_refl _)
      have ho9 := (OwnV.low (f := iv) (l := [1]) hn1 hE.size).kept hg9 (.inr (OwnV.ne_blk (f := iv) (l := [1]) hn1 hB3 (by decide)))
      clear hst hg9
      generalize (W.alloc (.cells #[.int .i64 1] 3)).setRow w.heap.size #[.slice (some ⟨W.heap.size, 0, none⟩) 1 1, .int .i64 0, .int .i64 0] = w9 at *
      obtain ⟨k0, k1, k2⟩ := blk3 hZ9
      refine bodyPost_ret (v := .agg #[.slice (some ⟨W.heap.size, 0, none⟩) 1 1, .int .i64 0, .int .i64 0]) (by simp [results, Try.results17, go_sem, k0, k1, k2]) rfl ?_
      exact ⟨_, by rw [HF.out]; rfl, by rw [HF.out]; exact ho9, hE9⟩
end Go.Proofs.Ytnobepobalpccaa
