/- The walk that reads an abbreviation. -/
import Derived.Test.YtopanbcodfkedaaInfG
namespace Go.Proofs.Ytopanbcodfkedaa
open Go.RowKit
set_option linter.unusedVariables false
set_option linter.unusedSimpArgs false

theorem ab_size : (Try.prog.info? 96).map (·.size) = some 3 := by kernel_rfl
theorem MI.at_ {b n : Nat} {W : World} {E : Int → Bool} (h : MI b n W E) : ∃ es clock, W.heap[b]? = some (.map es clock) := by
  obtain ⟨D, ⟨es, clock, hb, _⟩, _⟩ := h
  exact ⟨es, clock, hb⟩
theorem MI.ne_row {α : Type} {f : α → List Value} {k : Nat} {e : TypeId} {base b n : Nat} {W : World} {E : Int → Bool} {v : Value} {l : List α} (h : MI b n W E) (ho : OwnR f k e base W v l) : v.ownBlock ≠ some b := fun ee => by
  obtain ⟨es, clock, hb⟩ := h.at_
  rcases ho.2 with ⟨rfl, _⟩ | ⟨g', cap, cur, rfl, _, hg, _⟩
  · cases ee
  · have : g' = b := by simpa [Value.ownBlock] using ee
    subst this
    rw [hb] at hg
    injection hg with hg
    cases hg
theorem MI.ne_blk {b n : Nat} {W : World} {E : Int → Bool} (h : MI b n W E) {g : Nat} {cs : Array Value} {t : TypeId} {fr : Nat × Nat} (hg : W.heap[g]? = some (.cells cs t fr)) : b ≠ g := by
  rintro rfl
  obtain ⟨es, clock, hb⟩ := h.at_
  rw [hb] at hg
  injection hg with hg
  cases hg
theorem seenA_snoc (l : List Att) (a : Att) (x : Int) : seenA (l ++ [a]) x = (decide (x = a.name) || seenA l x) := by
  unfold seenA
  rw [List.map_append]
  simp only [List.mem_append, List.map_cons, List.map_nil, List.mem_singleton]
  by_cases h : x = a.name <;> simp [h]
theorem attsD_ok {b : List UInt8} : ∀ {n : Nat} {l m : List Att} {p q : Int}, attsD b n l p = .ok (m, q) → p ≤ b.length → 0 ≤ p → m.length = l.length + n ∧ (∃ r, m = l ++ r ∧ ∀ a ∈ r, 1 ≤ a.name ∧ a.name ≤ 63 ∧ 1 ≤ a.form ∧ a.form ≤ 4 ∧ a.value = 0 ∧ a.text = ByteArray.empty) ∧ p ≤ q ∧ q ≤ b.length
  | 0, l, m, p, q, h, hp, h0 => by
    unfold attsD at h
    injection h with h
    injection h with h1 h2
    subst h1
    exact ⟨rfl, ⟨[], by simp, by simp⟩, by omega, by omega⟩
  | n + 1, l, m, p, q, h, hp, h0 => by
    unfold attsD at h
    rcases ha : attD l b p with e | ⟨a, q1⟩
    · rw [ha] at h; cases h
    rw [ha] at h
    simp only at h
    have hq : (1 ≤ a.name ∧ a.name ≤ 63 ∧ 1 ≤ a.form ∧ a.form ≤ 4 ∧ a.value = 0 ∧ a.text = ByteArray.empty) ∧ p ≤ q1 ∧ q1 ≤ b.length := by
      unfold attD at ha
      rcases hb : betR 1 63 4 b p with e | ⟨nm, q2⟩
      · rw [hb] at ha; cases ha
      rw [hb] at ha
      simp only at ha
      split at ha
      · cases ha
      rcases hc : betR 1 4 4 b q2 with e | ⟨f, q3⟩
      · rw [hc] at ha; cases ha
      rw [hc] at ha
      injection ha with ha
      injection ha with h1 h2
      subst h1
      have h3 := betR_ok hb
      have h4 := betR_ok hc
      exact ⟨⟨by simp only; omega, by simp only; omega, by simp only; omega, by simp only; omega, rfl, rfl⟩, by omega, by omega⟩
    obtain ⟨h1, ⟨r, h2, h3⟩, h4, h5⟩ := attsD_ok h hq.2.2 (by omega)
    refine ⟨by rw [h1, List.length_append]; simp; omega, ⟨a :: r, by rw [h2]; simp, fun x hx => ?_⟩, by omega, h5⟩
    rcases List.mem_cons.1 hx with rfl | hx
    · exact hq.1
    · exact h3 x hx
/-- the boxes of the walk -/
structure TB (w : World) (gr g2 g4 : Nat) (C : Array Value) (W : World) : Prop where
  res : W.heap[g2]? = some (.cells #[.int .i64 0, .bool false, .slice none 0 0] 96 (0, 0))
  tab : W.heap[g4]? = some (.cells C 96 (0, 0))
  kept : Kept w.heap.size [gr] w W
  low : w.heap.size ≤ g2 ∧ w.heap.size ≤ g4 ∧ g2 ≠ g4 ∧ gr < w.heap.size
section
variable {w W W' : World} {gr g2 g4 : Nat} {C : Array Value}
theorem TB.grown (h : TB w gr g2 g4 C W) {row : Option Nat} (hg : W.grownBy W' row) (h2 : some g2 ≠ row) (h4 : some g4 ≠ row) (hl : ∀ k, row = some k → w.heap.size ≤ k ∨ k = gr) : TB w gr g2 g4 C W' :=
  ⟨blk_grown h.res hg h2, blk_grown h.tab hg h4, h.kept.trans (Kept.of_grown hg h.kept.size (fun k e => (hl k e).imp id (fun e2 => by simp [e2]))), h.low⟩
theorem TB.reader (h : TB w gr g2 g4 C W) (hg : W.grownBy W' (some gr)) : TB w gr g2 g4 C W' := by
  have hlow := h.low
  exact h.grown hg (fun e => by cases e; omega) (fun e => by cases e; omega) (fun k e => by cases e; exact .inr rfl)
theorem TB.ext (h : TB w gr g2 g4 C W) (he : Ext W W') : TB w gr g2 g4 C W' := h.grown (he.grownBy none) (by simp) (by simp) (by simp)
theorem TB.put (h : TB w gr g2 g4 C W) (j : Nat) (v : Value) : TB w gr g2 g4 (C.setIfInBounds j v) (W.setCell ⟨g4, j, none⟩ v) :=
  ⟨blk_grown h.res (gset W ⟨g4, j, none⟩ v) (fun e => h.low.2.2.1 (by cases e; rfl)), blk_set h.tab j v, h.kept.trans (Kept.of_grown (gset W ⟨g4, j, none⟩ v) h.kept.size (fun k e => by cases e; exact .inl h.low.2.1)), h.low⟩
end
def AbbPost (gr : Nat) (x : Value) (r : Except Int (Shp × Int)) (w : World) (en : Ending) (w' : World) : Prop :=
  match r with
  | .error e => (∃ (t : Int) (k : Bool) (A2 : Option Addr) (n2 c2 : Nat), en = .returned (.tuple #[.agg #[.int .i64 t, .bool k, .slice A2 n2 c2], .int .i64 e])) ∧ e ≠ 0 ∧ Kept w.heap.size [gr] w w'
  | .ok (s, q) => ∃ y, en = .returned (.tuple #[.agg #[.int .i64 s.tag, .bool s.kids, y], .int .i64 0]) ∧ OwnR attCells 4 40 w.heap.size w' y s.attrs ∧ w'.heap[gr]? = some (.cells #[x, .int .i64 q] 90 (0, 0)) ∧ Kept w.heap.size [gr] w w'
set_option maxHeartbeats 40000000 in
set_option maxRecDepth 100000 in
theorem abb_any (gr : Nat) (x : Value) (b : List UInt8) (p : Int) (w : World) (hx : St [gr] w (fun W => InB W x b)) (hb : w.heap[gr]? = some (.cells #[x, .int .i64 p] 90 (0, 0))) (hl : b.length ≤ 1000000) :
    Calls Try.prog 37 #[.pointer (some ⟨gr, 0, none⟩)] w (AbbPost gr x (abbD b p) w) := by
  have HX := Lib.hid hx
  have HB := Lib.hid hb
  have hgr := heap_lt hb
  clear hx hb
  go_enter Try.func37, Try.ntmps37
  go_upto_region 2 with fail
  obtain ⟨W, hW, hE, hG2, hG4⟩ : ∃ W, W = (w.alloc (.cells #[.int .i64 0, .bool false, .slice none 0 0] 96)).alloc (.cells #[.int .i64 0, .bool false, .slice none 0 0] 96) ∧ Ext w W ∧ W.heap[w.heap.size]? = some (.cells #[.int .i64 0, .bool false, .slice none 0 0] 96 (0, 0)) ∧ W.heap[w.heap.size + 1]? = some (.cells #[.int .i64 0, .bool false, .slice none 0 0] 96 (0, 0)) := ⟨_, rfl, ((Ext.refl w).alloc _).alloc _, ((Ext.refl _).alloc _).heap (heap_alloc_new w _), by have := heap_alloc_new (w.alloc (.cells #[.int .i64 0, .bool false, .slice none 0 0] 96)) (.cells #[.int .i64 0, .bool false, .slice none 0 0] 96); simpa using this⟩
  rw [← hW]
  clear hW
  obtain ⟨g2, hg2⟩ : ∃ g, g = w.heap.size := ⟨_, rfl⟩
  obtain ⟨g4, hg4⟩ : ∃ g, g = w.heap.size + 1 := ⟨_, rfl⟩
  have hlow : w.heap.size ≤ g2 ∧ w.heap.size ≤ g4 ∧ g2 ≠ g4 ∧ gr < w.heap.size := by omega
  rw [← hg4] at hG4 ⊢
  rw [← hg2] at hG2 ⊢
  clear hg2 hg4
  have hT0 : TB w gr g2 g4 #[.int .i64 0, .bool false, .slice none 0 0] W := ⟨hG2, hG4, Kept.of_ext hE (Nat.le_refl _), hlow⟩
  have hrd0 := hE.heap HB.out
  have HL := Lib.hid hlow
  clear hG2 hG4 hE hlow
  go_wp2_with fail
  have hb1 := inBet_any gr 90 [] x b p 1 63 4 W (HX.out W hT0.kept) hrd0 hl (by decide)
  rcases htr : betR 1 63 4 b p with e | ⟨t, p1⟩
  · rw [htr] at hb1
    refine hb1.mono ?_
    rintro en w2 ⟨⟨v, rfl⟩, he0, hg2⟩
    have hT2 := hT0.reader hg2
    have HPF : Hid (abbD b p = .error e) := Lib.hid (by unfold abbD; rw [htr])
    have e0 : (e != 0) = true := by simpa using he0
    have HE0 := Lib.hid he0
    clear htr hb1 he0 hg2 hT0 hrd0
    obtain ⟨r0, r1, r2⟩ := blk3 hT2.tab
    have f0 := blk_free hT2.tab 0
    have hlt := heap_lt hT2.tab
    have hT3 := hT2.put 0 (.int .i64 v)
    simp only [List.setIfInBounds_toArray, List.set_cons_zero] at hT3
    go_upto_region 4 with fail
    clear r0 r1 r2 f0 hlt hT2
    generalize w2.setCell ⟨g4, 0, none⟩ (.int .i64 v) = w3 at *
    have hldt := run_loadAt_blk (P := Try.prog) w3 g4 96 96 _ (0, 0) _ hT3.tab Try.underlying96 rfl ab_size
    have hstt := run_storeAt_blk (P := Try.prog) w3 g2 96 96 _ #[.int .i64 v, .bool false, .slice none 0 0] hT3.res ab_size rfl (by simp [Value.oneCell'])
    go_wp2_with first | refine wpList_load_run rfl 96 (.tmp 4) rfl _ _ rfl hldt ?_ | refine wpList_store_run rfl 96 (.tmp 2) (.tmp 20) rfl _ _ _ rfl rfl hstt ?_
    have hZ9 := setRow_heap w3 g2 _ #[.int .i64 v, .bool false, .slice none 0 0] _ _ hT3.res
    have hk9 := hT3.kept.trans (Kept.of_grown (gsetRow w3 g2 #[.int .i64 v, .bool false, .slice none 0 0]) hT3.kept.size (fun k e => by cases e; exact .inl hT3.low.1))
    clear hldt hstt
    generalize w3.setRow g2 #[.int .i64 v, .bool false, .slice none 0 0] = w9 at *
    obtain ⟨k0, k1, k2⟩ := blk3 hZ9
    refine bodyPost_ret (v := .tuple #[.agg #[.int .i64 v, .bool false, .slice none 0 0], .int .i64 e]) (by simp [results, Try.results37, go_sem, k0, k1, k2]) rfl ?_
    rw [HPF.out]
    exact ⟨⟨_, _, _, _, _, rfl⟩, HE0.out, hk9⟩
  rw [htr] at hb1
  have hr1 := betR_ok htr
  refine hb1.mono ?_
  rintro en w2 ⟨rfl, hrd2, hg2⟩
  have hT2 := hT0.reader hg2
  have HPA : Hid (abbD b p = match betR 0 1 4 b p1 with
    | .error e => .error e
    | .ok (k, p2) => match betR 0 12 5 b p2 with
      | .error e => .error e
      | .ok (n, p3) => match attsD b n.toNat [] p3 with
        | .error e => .error e
        | .ok (l, q) => .ok (⟨t, k == 1, l⟩, q)) := Lib.hid (by
    conv => lhs; unfold abbD
    rw [htr]
    rfl)
  clear htr hb1 hg2 hT0 hrd0
  obtain ⟨r0, r1, r2⟩ := blk3 hT2.tab
  have f0 := blk_free hT2.tab 0
  have hlt := heap_lt hT2.tab
  have hT3 := hT2.put 0 (.int .i64 t)
  have hrd3 := blk_grown hrd2 (gset w2 ⟨g4, 0, none⟩ (.int .i64 t)) (fun e => by have e1 : gr = g4 := (by injection e); have := HL.out; omega)
  simp only [List.setIfInBounds_toArray, List.set_cons_zero] at hT3
  go_upto_region 4 with fail
  clear r0 r1 r2 f0 hlt hT2 hrd2
  generalize w2.setCell ⟨g4, 0, none⟩ (.int .i64 t) = w3 at *
  go_wp2_with fail
  have hb1 := inBet_any gr 90 [] x b p1 0 1 4 w3 (HX.out w3 hT3.kept) hrd3 hl (by decide)
  rcases htr : betR 0 1 4 b p1 with e | ⟨kv, p2⟩
  · rw [htr] at hb1
    refine hb1.mono ?_
    rintro en w4 ⟨⟨v, rfl⟩, he0, hg4⟩
    have hT4 := hT3.reader hg4
    have HPF : Hid (abbD b p = .error e) := Lib.hid (by rw [HPA.out, htr])
    have e0 : (e != 0) = true := by simpa using he0
    have HE0 := Lib.hid he0
    clear htr hb1 he0 hg4 hT3 hrd3
    have hldt := run_loadAt_blk (P := Try.prog) w4 g4 96 96 _ (0, 0) _ hT4.tab Try.underlying96 rfl ab_size
    have hstt := run_storeAt_blk (P := Try.prog) w4 g2 96 96 _ #[.int .i64 t, .bool false, .slice none 0 0] hT4.res ab_size rfl (by simp [Value.oneCell'])
    go_wp2_with first | refine wpList_load_run rfl 96 (.tmp 4) rfl _ _ rfl hldt ?_ | refine wpList_store_run rfl 96 (.tmp 2) (.tmp 29) rfl _ _ _ rfl rfl hstt ?_
    have hZ9 := setRow_heap w4 g2 _ #[.int .i64 t, .bool false, .slice none 0 0] _ _ hT4.res
    have hk9 := hT4.kept.trans (Kept.of_grown (gsetRow w4 g2 #[.int .i64 t, .bool false, .slice none 0 0]) hT4.kept.size (fun k e => by cases e; exact .inl hT4.low.1))
    clear hldt hstt
    generalize w4.setRow g2 #[.int .i64 t, .bool false, .slice none 0 0] = w9 at *
    obtain ⟨k0, k1, k2⟩ := blk3 hZ9
    refine bodyPost_ret (v := .tuple #[.agg #[.int .i64 t, .bool false, .slice none 0 0], .int .i64 e]) (by simp [results, Try.results37, go_sem, k0, k1, k2]) rfl ?_
    rw [HPF.out]
    exact ⟨⟨_, _, _, _, _, rfl⟩, HE0.out, hk9⟩
  rw [htr] at hb1
  have hr2 := betR_ok htr
  refine hb1.mono ?_
  rintro en w4 ⟨rfl, hrd4, hg4⟩
  have hT4 := hT3.reader hg4
  have HPB : Hid (abbD b p = match betR 0 12 5 b p2 with
      | .error e => .error e
      | .ok (n, p3) => match attsD b n.toNat [] p3 with
        | .error e => .error e
        | .ok (l, q) => .ok (⟨t, kv == 1, l⟩, q)) := Lib.hid (by rw [HPA.out, htr] <;> rfl)
  clear htr hb1 hg4 hT3 hrd3 HPA
  obtain ⟨r0, r1, r2⟩ := blk3 hT4.tab
  have f0 := blk_free hT4.tab 1
  have hlt := heap_lt hT4.tab
  obtain ⟨kb, hkb⟩ : ∃ k, k = (kv == 1) := ⟨_, rfl⟩
  have hT5 := hT4.put 1 (.bool (kv == 1))
  have hrd5 := blk_grown hrd4 (gset w4 ⟨g4, 1, none⟩ (.bool (kv == 1))) (fun e => by have e1 : gr = g4 := (by injection e); have := HL.out; omega)
  simp only [List.setIfInBounds_toArray, List.set_cons_succ, List.set_cons_zero] at hT5
  go_upto_region 10 with fail
  clear r0 r1 r2 f0 hlt hT4 hrd4
  generalize w4.setCell ⟨g4, 1, none⟩ (.bool (kv == 1)) = w5 at *
  rw [← hkb] at hT5 HPB
  clear hkb
  go_wp2_with fail
  have hb1 := inBet_any gr 90 [] x b p2 0 12 5 w5 (HX.out w5 hT5.kept) hrd5 hl (by decide)
  rcases htr : betR 0 12 5 b p2 with e | ⟨cn, p3⟩
  · rw [htr] at hb1
    refine hb1.mono ?_
    rintro en w6 ⟨⟨v, rfl⟩, he0, hg6⟩
    have hT6 := hT5.reader hg6
    have HPF : Hid (abbD b p = .error e) := Lib.hid (by rw [HPB.out, htr])
    have e0 : (e != 0) = true := by simpa using he0
    have HE0 := Lib.hid he0
    clear htr hb1 he0 hg6 hT5 hrd5
    have hldt := run_loadAt_blk (P := Try.prog) w6 g4 96 96 _ (0, 0) _ hT6.tab Try.underlying96 rfl ab_size
    have hstt := run_storeAt_blk (P := Try.prog) w6 g2 96 96 _ #[.int .i64 t, .bool kb, .slice none 0 0] hT6.res ab_size rfl (by simp [Value.oneCell'])
    go_wp2_with first | refine wpList_load_run rfl 96 (.tmp 4) rfl _ _ rfl hldt ?_ | refine wpList_store_run rfl 96 (.tmp 2) (.tmp 41) rfl _ _ _ rfl rfl hstt ?_
    have hZ9 := setRow_heap w6 g2 _ #[.int .i64 t, .bool kb, .slice none 0 0] _ _ hT6.res
    have hk9 := hT6.kept.trans (Kept.of_grown (gsetRow w6 g2 #[.int .i64 t, .bool kb, .slice none 0 0]) hT6.kept.size (fun k e => by cases e; exact .inl hT6.low.1))
    clear hldt hstt
    generalize w6.setRow g2 #[.int .i64 t, .bool kb, .slice none 0 0] = w9 at *
    obtain ⟨k0, k1, k2⟩ := blk3 hZ9
    refine bodyPost_ret (v := .tuple #[.agg #[.int .i64 t, .bool kb, .slice none 0 0], .int .i64 e]) (by simp [results, Try.results37, go_sem, k0, k1, k2]) rfl ?_
    rw [HPF.out]
    exact ⟨⟨_, _, _, _, _, rfl⟩, HE0.out, hk9⟩
  rw [htr] at hb1
  have hr3 := betR_ok htr
  obtain ⟨n, rfl⟩ : ∃ n : Nat, cn = (n : Int) := ⟨cn.toNat, by omega⟩
  refine hb1.mono ?_
  rintro en w6 ⟨rfl, hrd6, hg6⟩
  have hT6 := hT5.reader hg6
  have HPC : Hid (abbD b p = match attsD b n [] p3 with
        | .error e => .error e
        | .ok (l, q) => .ok (⟨t, kb, l⟩, q)) := Lib.hid (by rw [HPB.out, htr] <;> rfl)
  have hp3 : 0 ≤ p3 ∧ p3 ≤ b.length := by omega
  clear htr hb1 hg6 hT5 hrd5 HPB
  have hmk : (Instr.makeMap 104 none).run Try.prog w6 = .ok (.map (some w6.heap.size)) (w6.alloc (.map #[] 0)) := rfl
  go_upto_region 14 with fail
  clear hmk
  obtain ⟨bm, hbm⟩ : ∃ b, b = w6.heap.size := ⟨_, rfl⟩
  have hM := MI.made w6
  have hX7 := (Ext.refl w6).alloc (.map #[] 0)
  have hT7 := hT6.ext hX7
  have hrd7 := hX7.heap hrd6
  have hbw : w.heap.size ≤ bm := by rw [hbm]; exact hT6.kept.size
  rw [← hbm] at hM ⊢
  have hM2 : MI bm 0 (w6.alloc (.map #[] 0)) (fun x => seenA [] x) := hM
  generalize w6.alloc (.map #[] 0) = w7 at *
  clear hM hbm hX7 hT6 hrd6
  obtain ⟨r0, r1, r2⟩ := blk3 hT7.tab
  go_wp2_with fail
  clear r0 r1 r2
  go_loopw [45] (fun i wr => ∃ (k : Nat) (l : List Att) (q : Int) (y : Value), k ≤ n ∧ i = .int .i64 (k : Int) ∧ Hid (l.length = k) ∧ Hid (attsD b n [] p3 = attsD b (n - k) l q) ∧ TB w gr g2 g4 #[.int .i64 t, .bool kb, y] wr ∧ OwnR attCells 4 40 w.heap.size wr y l ∧ wr.heap[gr]? = some (.cells #[x, .int .i64 q] 90 (0, 0)) ∧ MI bm k wr (fun x => seenA l x)) (fun i _ => n - (intOf i).toNat)
  case atStart => exact ⟨0, [], p3, _, by omega, rfl, Lib.hid rfl, Lib.hid (by rw [Nat.sub_zero]), hT7, OwnR.nil _, hrd7, hM2⟩
  case round =>
    clear hT7 hrd7 hM2
    obtain ⟨k, l, q, y, hk, rfl, HK, HD, hT, hown, hrd, hM⟩ := hrel
    obtain ⟨wo, rfl⟩ : ∃ W : World, W = wr := ⟨_, rfl⟩
    obtain ⟨A2, c2, hy, _⟩ := id hown.inR
    obtain ⟨n2, hn2⟩ : ∃ m, m = l.length := ⟨_, rfl⟩
    rw [← hn2] at hy
    have hnl : l.length ≤ 12 := by have := HK.out; omega
    subst hy
    clear hn2
    by_cases hlt : k < n
    · have hik : (k : Int) < (n : Int) := by omega
      have HSN : Hid (n - k = (n - (k + 1)) + 1) := Lib.hid (by omega)
      go_wp2_with fail
      have hb1 := inBet_any gr 90 [] x b q 1 63 4 wo (HX.out wo hT.kept) hrd hl (by decide)
      rcases htr : betR 1 63 4 b q with e | ⟨nm, q1⟩
      · rw [htr] at hb1
        refine hb1.mono ?_
        rintro en wa ⟨⟨v, rfl⟩, he0, hga⟩
        have hTa := hT.reader hga
        have HPF : Hid (abbD b p = .error e) := Lib.hid (by
          rw [HPC.out, HD.out, HSN.out]
          unfold attsD attD
          rw [htr])
        have e0 : (e != 0) = true := by simpa using he0
        have HE0 := Lib.hid he0
        clear htr hb1 he0 hga hT hrd hown hM
        have hldt := run_loadAt_blk (P := Try.prog) wa g4 96 96 _ (0, 0) _ hTa.tab Try.underlying96 rfl ab_size
        have hstt := run_storeAt_blk (P := Try.prog) wa g2 96 96 _ #[.int .i64 t, .bool kb, .slice A2 n2 c2] hTa.res ab_size rfl (by simp [Value.oneCell'])
        go_wp2_with first | refine wpList_load_run rfl 96 (.tmp 4) rfl _ _ rfl hldt ?_ | refine wpList_store_run rfl 96 (.tmp 2) (.tmp 54) rfl _ _ _ rfl rfl hstt ?_
        have hZ9 := setRow_heap wa g2 _ #[.int .i64 t, .bool kb, .slice A2 n2 c2] _ _ hTa.res
        have hk9 := hTa.kept.trans (Kept.of_grown (gsetRow wa g2 #[.int .i64 t, .bool kb, .slice A2 n2 c2]) hTa.kept.size (fun k e => by cases e; exact .inl hTa.low.1))
        clear hldt hstt
        generalize wa.setRow g2 #[.int .i64 t, .bool kb, .slice A2 n2 c2] = w9 at *
        obtain ⟨k0, k1, k2⟩ := blk3 hZ9
        refine bodyPost_ret (v := .tuple #[.agg #[.int .i64 t, .bool kb, .slice A2 n2 c2], .int .i64 e]) (by simp [results, Try.results37, go_sem, k0, k1, k2]) rfl ?_
        rw [HPF.out]
        exact ⟨⟨_, _, _, _, _, rfl⟩, HE0.out, hk9⟩
      rw [htr] at hb1
      have hr4 := betR_ok htr
      refine hb1.mono ?_
      rintro en wa ⟨rfl, hrda, hga⟩
      have hTa := hT.reader hga
      have hMa := hM.kept hga (fun e => hM.ne_blk hrd (by injection e with e; exact e.symm))
      have howna := hown.kept hga (.inr (hown.ne_blk hrd (by decide)))
      have HTR := Lib.hid htr
      clear htr hb1 hga hT hrd hown hM
      have hlk := hMa.look (k := nm) (by unfold I64; omega)
      obtain ⟨sb, hsb⟩ : ∃ s, s = seenA l nm := ⟨_, rfl⟩
      rw [← hsb] at hlk
      have HSB := Lib.hid hsb
      clear hsb
      cases sb with
      | true =>
        have HPF : Hid (abbD b p = .error 9) := Lib.hid (by
          rw [HPC.out, HD.out, HSN.out]
          unfold attsD attD
          rw [HTR.out]
          simp only
          rw [← HSB.out]
          rfl)
        have HE0 : Hid ((9 : Int) ≠ 0) := Lib.hid (by decide)
        clear hMa hrda howna
        go_upto_region 20 with fail
        clear hlk
        have hldt := run_loadAt_blk (P := Try.prog) wa g4 96 96 _ (0, 0) _ hTa.tab Try.underlying96 rfl ab_size
        have hstt := run_storeAt_blk (P := Try.prog) wa g2 96 96 _ #[.int .i64 t, .bool kb, .slice A2 n2 c2] hTa.res ab_size rfl (by simp [Value.oneCell'])
        go_wp2_with first | refine wpList_load_run rfl 96 (.tmp 4) rfl _ _ rfl hldt ?_ | refine wpList_store_run rfl 96 (.tmp 2) (.tmp 59) rfl _ _ _ rfl rfl hstt ?_
        have hZ9 := setRow_heap wa g2 _ #[.int .i64 t, .bool kb, .slice A2 n2 c2] _ _ hTa.res
        have hk9 := hTa.kept.trans (Kept.of_grown (gsetRow wa g2 #[.int .i64 t, .bool kb, .slice A2 n2 c2]) hTa.kept.size (fun k e => by cases e; exact .inl hTa.low.1))
        clear hldt hstt
        generalize wa.setRow g2 #[.int .i64 t, .bool kb, .slice A2 n2 c2] = w9 at *
        obtain ⟨k0, k1, k2⟩ := blk3 hZ9
        refine bodyPost_ret (v := .tuple #[.agg #[.int .i64 t, .bool kb, .slice A2 n2 c2], .int .i64 9]) (by simp [results, Try.results37, go_sem, k0, k1, k2]) rfl ?_
        rw [HPF.out]
        exact ⟨⟨_, _, _, _, _, rfl⟩, HE0.out, hk9⟩
      | false =>
        go_upto_region 21 with fail
        clear hlk
        obtain ⟨wb, hrun, hM2, hg2⟩ := hMa.put (k := nm) (by unfold I64; omega) (by omega)
        have hTb := hTa.grown hg2 (fun e => hMa.ne_blk hTa.res (by injection e with e; exact e.symm)) (fun e => hMa.ne_blk hTa.tab (by injection e with e; exact e.symm)) (fun k e => by cases e; exact .inl hbw)
        have hrdb := blk_grown hrda hg2 (fun e => hMa.ne_blk hrda (by injection e with e; exact e.symm))
        have hownb := howna.kept hg2 (.inr (hMa.ne_row howna))
        clear hg2 hMa hTa hrda howna
        go_upto_region 22 with first | refine wpList_mapUpdate_run (w' := wb) rfl (.tmp 60) (.tmp 61) (.const (.bool true)) 104 rfl _ _ _ rfl rfl rfl hrun ?_
        clear hrun
        go_wp2_with fail
        have hb1 := inBet_any gr 90 [] x b q1 1 4 4 wb (HX.out wb hTb.kept) hrdb hl (by decide)
        rcases htr : betR 1 4 4 b q1 with e | ⟨fm, q2⟩
        · rw [htr] at hb1
          refine hb1.mono ?_
          rintro en wc ⟨⟨v, rfl⟩, he0, hgc⟩
          have hTc := hTb.reader hgc
          have HPF : Hid (abbD b p = .error e) := Lib.hid (by
            rw [HPC.out, HD.out, HSN.out]
            unfold attsD attD
            rw [HTR.out]
            simp only
            rw [← HSB.out]
            simp only [Bool.false_eq_true, if_false, htr])
          have e0 : (e != 0) = true := by simpa using he0
          have HE0 := Lib.hid he0
          clear htr hb1 he0 hgc hTb hrdb hownb hM2
          have hldt := run_loadAt_blk (P := Try.prog) wc g4 96 96 _ (0, 0) _ hTc.tab Try.underlying96 rfl ab_size
          have hstt := run_storeAt_blk (P := Try.prog) wc g2 96 96 _ #[.int .i64 t, .bool kb, .slice A2 n2 c2] hTc.res ab_size rfl (by simp [Value.oneCell'])
          go_wp2_with first | refine wpList_load_run rfl 96 (.tmp 4) rfl _ _ rfl hldt ?_ | refine wpList_store_run rfl 96 (.tmp 2) (.tmp 69) rfl _ _ _ rfl rfl hstt ?_
          have hZ9 := setRow_heap wc g2 _ #[.int .i64 t, .bool kb, .slice A2 n2 c2] _ _ hTc.res
          have hk9 := hTc.kept.trans (Kept.of_grown (gsetRow wc g2 #[.int .i64 t, .bool kb, .slice A2 n2 c2]) hTc.kept.size (fun k e => by cases e; exact .inl hTc.low.1))
          clear hldt hstt
          generalize wc.setRow g2 #[.int .i64 t, .bool kb, .slice A2 n2 c2] = w9 at *
          obtain ⟨k0, k1, k2⟩ := blk3 hZ9
          refine bodyPost_ret (v := .tuple #[.agg #[.int .i64 t, .bool kb, .slice A2 n2 c2], .int .i64 e]) (by simp [results, Try.results37, go_sem, k0, k1, k2]) rfl ?_
          rw [HPF.out]
          exact ⟨⟨_, _, _, _, _, rfl⟩, HE0.out, hk9⟩
        rw [htr] at hb1
        have hr5 := betR_ok htr
        refine hb1.mono ?_
        rintro en wc ⟨rfl, hrdc, hgc⟩
        have hTc := hTb.reader hgc
        have hMc := hM2.kept hgc (fun e => hM2.ne_blk hrdb (by injection e with e; exact e.symm))
        have hownc := hownb.kept hgc (.inr (hownb.ne_blk hrdb (by decide)))
        have HD2 : Hid (attsD b n [] p3 = attsD b (n - (k + 1)) (l ++ [⟨nm, fm, 0, ByteArray.empty⟩]) q2) := Lib.hid (by
          rw [HD.out, HSN.out]
          conv => lhs; unfold attsD attD
          rw [HTR.out]
          simp only
          rw [← HSB.out]
          simp only [Bool.false_eq_true, if_false, htr])
        clear htr hb1 hgc hTb hrdb hownb hM2
        obtain ⟨att, hatt⟩ : ∃ a : Att, a = ⟨nm, fm, 0, ByteArray.empty⟩ := ⟨_, rfl⟩
        rw [← hatt] at HD2
        have hA5 := (Ext.refl wc).alloc (.cells #[.int .i64 nm, .int .i64 fm, .int .i64 0, .string ByteArray.empty] 40)
        have hin5 : InR attCells (wc.alloc (.cells #[.int .i64 nm, .int .i64 fm, .int .i64 0, .string ByteArray.empty] 40)) (.slice (some ⟨wc.heap.size, 0, none⟩) 1 1) [att] := by rw [hatt]; exact (OwnR_one (f := attCells) wc ⟨nm, fm, 0, ByteArray.empty⟩ rfl 40).inR
        have HAN : Hid (att.name = nm) := Lib.hid (by rw [hatt])
        have hone : ∀ a ∈ [att], ∀ u ∈ attCells a, u.oneCell' = true := fun a ha u hu => by
          simp only [List.mem_singleton] at ha
          subst ha
          simp only [attCells, List.mem_cons, List.not_mem_nil, or_false] at hu
          rcases hu with rfl | rfl | rfl | rfl <;> rfl
        have hTd := hTc.ext hA5
        have hrdd := hA5.heap hrdc
        have hownd := hownc.ext hA5
        have hMd := hMc.ext hA5
        have hszd : w.heap.size ≤ (wc.alloc (.cells #[.int .i64 nm, .int .i64 fm, .int .i64 0, .string ByteArray.empty] 40)).heap.size := hTd.kept.size
        obtain ⟨r0, r1, r2⟩ := blk3 hTc.tab
        clear hatt hTc hrdc hownc hMc
        go_wp2_with first | refine wpList_rowOne elem_at rfl (.tmp 75) rfl #[.int .i64 nm, .int .i64 fm, .int .i64 0, .string ByteArray.empty] rfl rfl (by omega) ?_ | (at_builtin; go_must (refine wpList_appendR elem_at rfl (.tmp 72) (.tmp 76) rfl w.heap.size _ l rfl hownd _ [att] rfl hin5 (fun _ _ => rfl) hone (by simp only [List.length_cons, List.length_nil]; omega) (by omega) hszd (Hold.out ?_)))
        refine Hold.mk fun v9 w9 ho9 hg9 => ?_
        have hT9 := hTd.grown hg9.grown (fun e => hownd.ne_blk hTd.res (by decide) e.symm) (fun e => hownd.ne_blk hTd.tab (by decide) e.symm) (fun k e => .inl (hownd.ge k e))
        have hrd9 := blk_grown hrdd hg9.grown (fun e => hownd.ne_blk hrdd (by decide) e.symm)
        have hM9 := hMd.kept hg9.grown (hMd.ne_row hownd)
        clear hTd hrdd hownd hMd hg9 hA5 hin5 r0 r1 r2 hszd hone
        obtain ⟨A9, c9, hv9, _⟩ := id ho9.inR
        obtain ⟨n9, hn9⟩ : ∃ m, m = (l ++ [att]).length := ⟨_, rfl⟩
        rw [← hn9] at hv9
        have HN9 := Lib.hid hn9
        subst hv9
        clear hn9
        have s2 := gset w9 ⟨g4, 2, none⟩ (.slice A9 n9 c9)
        have hTz := hT9.put 2 (.slice A9 n9 c9)
        simp only [List.setIfInBounds_toArray, List.set_cons_succ, List.set_cons_zero] at hTz
        have hrdz := blk_grown hrd9 s2 (fun e => by have e1 : gr = g4 := (by injection e); have := HL.out; omega)
        have hownz := ho9.kept s2 (.inr (ho9.ne_blk hT9.tab (by decide)))
        have hMz : MI bm (k + 1) (w9.setCell ⟨g4, 2, none⟩ (.slice A9 n9 c9)) (fun x => seenA (l ++ [att]) x) := by
          have e : (fun x => seenA (l ++ [att]) x) = (fun x => decide (x = nm) || seenA l x) := funext (fun x => by rw [seenA_snoc, HAN.out])
          rw [e]
          exact hM9.kept s2 (fun e => hM9.ne_blk hT9.tab (by injection e with e; exact e.symm))
        have HKN : Hid ((l ++ [att]).length = k + 1) := Lib.hid (by rw [List.length_append, HK.out]; rfl)
        obtain ⟨r0, r1, r2⟩ := blk3 hT9.tab
        have f2 := blk_free hT9.tab 2
        have hlt9 := heap_lt hT9.tab
        clear s2 hrd9 ho9 hM9 hT9
        go_wp2_with fail
        go_roundw
        case rel => exact ⟨k + 1, l ++ [att], q2, _, by omega, by first | (with_reducible rfl) | go_num, HKN, HD2, hTz, hownz, hrdz, hMz⟩
        case measure => simp [intOf]; omega
    · have hik : ¬ (k : Int) < (n : Int) := by omega
      have HPF : Hid (abbD b p = .ok (⟨t, kb, l⟩, q)) := Lib.hid (by
        have e : n - k = 0 := by omega
        rw [HPC.out, HD.out, e]
        rfl)
      have hldt := run_loadAt_blk (P := Try.prog) wo g4 96 96 _ (0, 0) _ hT.tab Try.underlying96 rfl ab_size
      have hstt := run_storeAt_blk (P := Try.prog) wo g2 96 96 _ #[.int .i64 t, .bool kb, .slice A2 n2 c2] hT.res ab_size rfl (by simp [Value.oneCell'])
      go_wp2_with first | refine wpList_load_run rfl 96 (.tmp 4) rfl _ _ rfl hldt ?_ | refine wpList_store_run rfl 96 (.tmp 2) (.tmp 80) rfl _ _ _ rfl rfl hstt ?_
      have hZ9 := setRow_heap wo g2 _ #[.int .i64 t, .bool kb, .slice A2 n2 c2] _ _ hT.res
      have hk9 := hT.kept.trans (Kept.of_grown (gsetRow wo g2 #[.int .i64 t, .bool kb, .slice A2 n2 c2]) hT.kept.size (fun k e => by cases e; exact .inl hT.low.1))
      have ho9 := hown.kept (gsetRow wo g2 #[.int .i64 t, .bool kb, .slice A2 n2 c2]) (.inr (hown.ne_blk hT.res (by decide)))
      have hr9 := blk_grown hrd (gsetRow wo g2 #[.int .i64 t, .bool kb, .slice A2 n2 c2]) (fun e => by have e1 : gr = g2 := (by injection e); have := HL.out; omega)
      clear hldt hstt
      generalize wo.setRow g2 #[.int .i64 t, .bool kb, .slice A2 n2 c2] = w9 at *
      obtain ⟨k0, k1, k2⟩ := blk3 hZ9
      refine bodyPost_ret (v := .tuple #[.agg #[.int .i64 t, .bool kb, .slice A2 n2 c2], .int .i64 0]) (by simp [results, Try.results37, go_sem, k0, k1, k2]) rfl ?_
      rw [HPF.out]
      exact ⟨_, rfl, ho9, hr9, hk9⟩
end Go.Proofs.Ytopanbcodfkedaa
