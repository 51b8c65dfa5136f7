/- LinesAt: the walk. -/
import Derived.Test.YtokmbdeafjmcjaaAtB
import Derived.Test.YtokmbdeafjmcjaaLinQ
namespace Go.Proofs.Ytokmbdeafjmcjaa
open Go.RowKit
set_option linter.unusedVariables false

theorem okRows_ge {hi : Int} : ∀ {l : List LRow} {next : Int}, okRows next hi l → ∀ r ∈ l, next ≤ r.addr ∧ r.addr < hi
  | [], _, _, r, hr => by cases hr
  | x :: l, next, h, r, hr => by
    have h1 := h.1.1
    rcases List.mem_cons.1 hr with rfl | hr
    · exact ⟨h1.1, h1.2.1⟩
    · have := okRows_ge h.2 r hr
      omega
theorem okRows_tail {hi : Int} : ∀ {l1 l2 : List LRow} {r : LRow} {next : Int}, okRows next hi (l1 ++ r :: l2) → okRows (r.addr + 1) hi l2
  | [], _, _, _, h => h.2
  | x :: l1, _, _, _, h => okRows_tail (l1 := l1) h.2
theorem TabsOwn.kept2 {base : Nat} {xs : List Nat} {w w' : World} {v : Value} {l : List LTab} (h : TabsOwn base w v l) (hk : Kept w.heap.size xs w w') (hx : ∀ x ∈ xs, x < base) : TabsOwn base w' v l := by
  obtain ⟨zs, h1, h2, h3⟩ := h
  exact ⟨zs, h1, hk.ownR h2 (fun k e => ⟨h2.lt k e, fun hm => by have := hx k hm; have := h2.ge k e; omega⟩), fun z hz => hk.ownR (h3 z hz) (fun k e => ⟨(h3 z hz).lt k e, fun hm => by have := hx k hm; have := (h3 z hz).ge k e; omega⟩)⟩
theorem TabsOwn.at_own {base : Nat} {w : World} {A : Option Addr} {n c : Nat} {l : List LTab} (h : TabsOwn base w (.slice A n c) l) {j : Nat} (hj : j < l.length) :
    ∃ b off y, A = some ⟨b, off, none⟩ ∧ w.rangeAt b (off + j * 3) (ltabCells (l[j], y)) ∧ OwnR lrowCells 4 53 base w y l[j].rows := by
  obtain ⟨zs, rfl, h2, h3⟩ := h
  have hj' : j < zs.length := by simpa using hj
  obtain ⟨b, off, rfl, hr⟩ := h2.inR.at_ (k := 3) (fun z hz => rfl) (by omega) hj'
  refine ⟨b, off, zs[j].2, rfl, ?_, ?_⟩
  · simpa using hr
  · have := h3 zs[j] (List.getElem_mem hj')
    simpa using this
theorem Kept.set2 {base g : Nat} {xs : List Nat} {w W W' : World} (h : Kept base xs w W) (hb : base ≤ w.heap.size) (hg : W.grownBy W' (some g)) (hx : g ∈ xs) : Kept base xs w W' :=
  h.trans (Kept.of_grown hg (Nat.le_trans hb h.size) (fun k e => by cases e; exact .inr hx))
theorem Kept.ext2 {base : Nat} {xs : List Nat} {w W W' : World} (h : Kept base xs w W) (hb : base ≤ w.heap.size) (he : Ext W W') : Kept base xs w W' :=
  h.trans (Kept.of_ext he (Nat.le_trans hb h.size))
def endOf (t : LTab) (i : Nat) : Int := match t.rows[i + 1]? with
  | some r => r.addr
  | none => t.hi
theorem lastLe_mid {a : Int} {l1 l2 : List LRow} {r : LRow} (h : r.addr ≤ a) (h2 : ∀ s ∈ l2, a < s.addr) : lastLe a (l1 ++ r :: l2) = (r, true) := by
  unfold lastLe
  have : (l1 ++ r :: l2).reverse.find? (fun r => decide (r.addr ≤ a)) = some r := by
    rw [List.find?_eq_some_iff_append]
    refine ⟨by simpa using h, l2.reverse, l1.reverse, by simp, fun s hs => ?_⟩
    have := h2 s (List.mem_reverse.1 hs)
    simp; omega
  rw [this]
theorem at_row {t : LTab} (hok : okRows t.lo t.hi t.rows) {i : Nat} (hi : i < t.rows.length) : atL t (endOf t i - 1) = (t.rows[i], true) ∧ t.lo < endOf t i ∧ endOf t i ≤ t.hi := by
  have hsp : t.rows = t.rows.take i ++ t.rows[i] :: t.rows.drop (i + 1) := by rw [← List.drop_eq_getElem_cons hi, List.take_append_drop]
  have hg := okRows_ge hok t.rows[i] (List.getElem_mem hi)
  have ht : okRows (t.rows[i].addr + 1) t.hi (t.rows.drop (i + 1)) := okRows_tail (l1 := t.rows.take i) (by rw [← hsp]; exact hok)
  generalize hr : t.rows[i] = r at *
  have key : r.addr < endOf t i ∧ endOf t i ≤ t.hi ∧ ∀ s ∈ t.rows.drop (i + 1), endOf t i ≤ s.addr := by
    unfold endOf
    by_cases h1 : i + 1 < t.rows.length
    · rw [List.getElem?_eq_getElem h1]
      rw [List.drop_eq_getElem_cons h1] at ht ⊢
      have h3 := ht.1.1
      refine ⟨by simp only; omega, by simp only; omega, fun s hs => ?_⟩
      rcases List.mem_cons.1 hs with rfl | hs
      · exact Int.le_refl _
      · have := okRows_ge ht.2 s hs
        simp only
        omega
    · rw [List.getElem?_eq_none (by omega), List.drop_of_length_le (by omega)]
      exact ⟨hg.2, Int.le_refl _, by simp⟩
  obtain ⟨k1, k2, k3⟩ := key
  refine ⟨?_, by omega, k2⟩
  rw [atL_eq, if_neg (by omega), hsp]
  exact lastLe_mid (by omega) (fun s hs => by have := k3 s hs; omega)
set_option maxHeartbeats 40000000 in
set_option maxRecDepth 100000 in
theorem at_walk (t : LTab) (y x : Value) (nums : List Int) (addr : Int) (w : World) (hy : InR lrowCells w y t.rows) (hI : t.I) (hx : InI w x nums) :
    Calls Try.prog 9 #[.agg #[.int .i64 t.lo, .int .i64 t.hi, y], x, .int .i64 addr] w fun en w' => en = .returned (.bool true) ∧ Ext w w' := by
  obtain ⟨A2, c2, rfl, _, _⟩ := id hy
  obtain ⟨A0, c0, rfl, _, _⟩ := id hx
  have hlen := hI.len
  go_enter Try.func9, Try.ntmps9
  go_upto_region 1 with fail
  obtain ⟨W1, hW1, hE1, hB3⟩ : ∃ W, W = w.alloc (.cells #[.int .i64 t.lo, .int .i64 t.hi, .slice A2 t.rows.length c2] 46) ∧ Ext w W ∧ W.heap[w.heap.size]? = some (.cells #[.int .i64 t.lo, .int .i64 t.hi, .slice A2 t.rows.length c2] 46 (0, 0)) := ⟨_, rfl, (Ext.refl w).alloc _, heap_alloc_new w _⟩
  obtain ⟨g3, hg3⟩ : ∃ g, g = w.heap.size := ⟨_, rfl⟩
  rw [← hg3] at hB3 ⊢
  rw [← hW1]
  clear hW1 hg3
  obtain ⟨q0, q1, q2⟩ := blkT hB3
  by_cases h300 : 300 < t.rows.length
  case pos =>
    have d : decide ((300 : Int) < (t.rows.length : Int)) = true := by simp; omega
    go_wp2_with fail
    refine (known18_any W1).mono ?_
    rintro en w8 ⟨rfl, hx8⟩
    go_wp2_with fail
    go_ret
    exact ⟨rfl, hE1.trans hx8⟩
  have d : decide ((300 : Int) < (t.rows.length : Int)) = false := by simp; omega
  have hldt := run_loadAt_blk (P := Try.prog) W1 g3 46 46 _ (0, 0) _ hB3 Try.underlying46 rfl lt_size
  go_wp2_with first | refine wpList_load_run rfl 46 (.tmp 3) rfl _ _ rfl hldt ?_
  refine (At_any t _ addr W1 (hy.ext hE1) hI).mono ?_
  rintro en w2 ⟨r, b, rfl, HA, hx2⟩
  have HR := Lib.hid HA
  clear HA
  obtain ⟨hst, hB7, hXG⟩ := box_new (P := Try.prog) w2 53 #[.int .i64 0, .int .i64 0, .int .i64 0, .bool false] #[.int .i64 r.addr, .int .i64 r.ctx, .int .i64 r.stmt, .bool r.mark] rw_size rfl (by simp [Value.oneCell'])
  go_upto_region 4 with first | refine wpList_store_run rfl 53 (.tmp 7) (.tmp 28) rfl _ _ _ rfl rfl hst ?_
  obtain ⟨g7, hg7⟩ : ∃ g, g = w2.heap.size := ⟨_, rfl⟩
  rw [← hg7] at hB7 hXG ⊢
  have hl7 : w.heap.size ≤ g7 := by rw [hg7]; exact (hE1.trans hx2).size
  generalize (w2.alloc (.cells #[.int .i64 0, .int .i64 0, .int .i64 0, .bool false] 53)).setRow g7 #[.int .i64 r.addr, .int .i64 r.ctx, .int .i64 r.stmt, .bool r.mark] = w3 at *
  have hE3 := hE1.trans (hx2.trans hXG)
  have hC3 := (hx2.trans hXG).heap hB3
  clear hst hXG hx2 hg7 hldt hB3 q0 q1 q2 hE1
  have hldt := run_loadAt_blk (P := Try.prog) w3 g3 46 46 _ (0, 0) _ hC3 Try.underlying46 rfl lt_size
  go_wp2_with first | refine wpList_load_run rfl 46 (.tmp 3) rfl _ _ rfl hldt ?_
  refine (refAt_any t _ addr w3 (hy.ext hE3) hI).mono ?_
  rintro en w4 ⟨r', b', rfl, HA, hx4⟩
  obtain ⟨rfl, rfl⟩ : r' = r ∧ b' = b := by
    have h := HA.trans HR.out.symm
    injection h with h1 h2
    exact ⟨h1, h2⟩
  obtain ⟨hst, hB9, hXG⟩ := box_new (P := Try.prog) w4 53 #[.int .i64 0, .int .i64 0, .int .i64 0, .bool false] #[.int .i64 r'.addr, .int .i64 r'.ctx, .int .i64 r'.stmt, .bool r'.mark] rw_size rfl (by simp [Value.oneCell'])
  go_upto_region 5 with first | refine wpList_store_run rfl 53 (.tmp 9) (.tmp 34) rfl _ _ _ rfl rfl hst ?_
  obtain ⟨g9, hg9⟩ : ∃ g, g = w4.heap.size := ⟨_, rfl⟩
  rw [← hg9] at hB9 hXG ⊢
  have hl9 : w.heap.size ≤ g9 := by rw [hg9]; exact (hE3.trans hx4).size
  have hl79 : g7 ≠ g9 := by have := heap_lt hB7; have := hx4.size; omega
  generalize (w4.alloc (.cells #[.int .i64 0, .int .i64 0, .int .i64 0, .bool false] 53)).setRow g9 #[.int .i64 r'.addr, .int .i64 r'.ctx, .int .i64 r'.stmt, .bool r'.mark] = w5 at *
  have hE5 := hE3.trans (hx4.trans hXG)
  have hC7 := (hx4.trans hXG).heap hB7
  clear hst hXG hx4 hg9 hldt hB7 hE3 hC3 HA HR
  obtain ⟨p0, p1, p2, p3⟩ := blkR hC7
  obtain ⟨s0, s1, s2, s3⟩ := blkR hB9
  have hbb : (b' != b') = false := by simp
  have ha1 : (r'.addr != r'.addr) = false := by simp
  go_upto_if 43 with fail
  go_wp2_with fail
  refine (tables_any _ nums w5 (hx.ext hE5)).mono ?_
  rintro en wT ⟨y1, lx, rfl, hT, hR, hl4, hN, hx1⟩
  obtain ⟨A1, c1, rfl⟩ := hT.in_.form
  have HT := Lib.hid hT
  have HR := Lib.hid hR
  have hxs : ∀ z ∈ [g7, g9], z < w5.heap.size := fun z hz => by
    have h7 := heap_lt hC7
    have h9 := heap_lt hB9
    simp only [List.mem_cons, List.not_mem_nil, or_false] at hz
    rcases hz with rfl | rfl <;> assumption
  have hxw : ∀ z ∈ [g7, g9], w.heap.size ≤ z := fun z hz => by
    simp only [List.mem_cons, List.not_mem_nil, or_false] at hz
    rcases hz with rfl | rfl <;> assumption
  have HXS := Lib.hid hxs
  have HXW := Lib.hid hxw
  have hD7 := hx1.heap hC7
  have hD9 := hx1.heap hB9
  have hET := hE5.trans hx1
  clear hT hR hN hxs hxw hC7 hB9 hE5 p0 p1 p2 p3 s0 s1 s2 s3 hbb ha1 hx1
  go_wp2_with fail
  go_loopw [47] (fun i wr => ∃ (j : Nat) (a7 a9 : LRow), j ≤ lx.length ∧ i = .int .i64 (j : Int) ∧ wr.heap[g7]? = some (.cells #[.int .i64 a7.addr, .int .i64 a7.ctx, .int .i64 a7.stmt, .bool a7.mark] 53 (0, 0)) ∧ wr.heap[g9]? = some (.cells #[.int .i64 a9.addr, .int .i64 a9.ctx, .int .i64 a9.stmt, .bool a9.mark] 53 (0, 0)) ∧ Kept wT.heap.size [g7, g9] wT wr) (fun i _ => lx.length - (intOf i).toNat)
  case atStart => exact ⟨0, r', r', by omega, rfl, hD7, hD9, Kept.refl _ _ _⟩
  case round =>
    clear hD7 hD9
    obtain ⟨j, a7, a9, hj, rfl, hB7, hB9, hK⟩ := hrel
    obtain ⟨wo, rfl⟩ : ∃ W : World, W = wr := ⟨_, rfl⟩
    by_cases hlt : j < lx.length
    · have hij : (j : Int) < (lx.length : Int) := by omega
      obtain ⟨bb, oo, yv, rfl, hra, hrw⟩ := (HT.out.kept2 hK HXS.out).at_own hlt
      have hHM := HR.out.mem (List.getElem_mem hlt)
      have hUI := HR.out.I (List.getElem_mem hlt)
      generalize lx[j] = u at *
      obtain ⟨A8, c8, rfl, _, _⟩ := hrw.inR
      have hld := ltab_load hra
      obtain ⟨hst, hG, hXG⟩ := box_new (P := Try.prog) wo 46 #[.int .i64 0, .int .i64 0, .slice none 0 0] #[.int .i64 u.lo, .int .i64 u.hi, .slice A8 u.rows.length c8] lt_size rfl (by simp [Value.oneCell'])
      go_upto_region 10 with first | refine wpList_load_run rfl 46 (.tmp 49) rfl _ _ rfl hld ?_ | refine wpList_store_run rfl 46 (.tmp 12) (.tmp 50) rfl _ _ _ rfl rfl hst ?_
      obtain ⟨g12, hg12⟩ : ∃ g, g = wo.heap.size := ⟨_, rfl⟩
      rw [← hg12] at hG hXG ⊢
      have hn7 : g12 ≠ g7 := by have := heap_lt hB7; omega
      have hn9 : g12 ≠ g9 := by have := heap_lt hB9; omega
      generalize (wo.alloc (.cells #[.int .i64 0, .int .i64 0, .slice none 0 0] 46)).setRow g12 #[.int .i64 u.lo, .int .i64 u.hi, .slice A8 u.rows.length c8] = wg at *
      dsimp only [Act.put]
      have hOw := hrw.ext hXG
      have hD7 := hXG.heap hB7
      have hD9 := hXG.heap hB9
      have hKg := hK.trans (Kept.of_ext hXG hK.size)
      have hnx : g12 ∉ [g7, g9] := by simp [hn7, hn9]
      have hlg := heap_lt hG
      clear hst hld hra hXG hg12 hB7 hB9 hrw
      obtain ⟨hb, hokR, hln⟩ := hHM
      have HOK := Lib.hid hokR
      clear hokR
      obtain ⟨p0, p1, p2⟩ := blkT hG
      have wl1 : IntKind.i64.wrap (u.lo - 1) = u.lo - 1 := by rw [IntKind.wrap_i64]; omega
      have HOW := Lib.hid hOw
      have HKG := Lib.hid hKg
      clear hOw hKg
      go_wp2_with fail
      clear wl1 p0 p1 p2
      go_loopw [13] (fun i wr => ∃ (v : Int) (a7 a9 : LRow), i = .int .i64 v ∧ (u.lo - 1 ≤ v ∧ v ≤ u.hi + 1) ∧ wr.heap[g7]? = some (.cells #[.int .i64 a7.addr, .int .i64 a7.ctx, .int .i64 a7.stmt, .bool a7.mark] 53 (0, 0)) ∧ wr.heap[g9]? = some (.cells #[.int .i64 a9.addr, .int .i64 a9.ctx, .int .i64 a9.stmt, .bool a9.mark] 53 (0, 0)) ∧ Kept wg.heap.size [g7, g9] wg wr) (fun i _ => (u.hi + 1 - intOf i).toNat)
      case atStart => exact ⟨u.lo - 1, a7, a9, rfl, by omega, hD7, hD9, Kept.refl _ _ _⟩
      case round =>
        clear hD7 hD9
        obtain ⟨v, a7, a9, rfl, hv, hB7, hB9, hK2⟩ := hrel
        obtain ⟨wz, rfl⟩ : ∃ W : World, W = wr := ⟨_, rfl⟩
        have hG2 := hK2.heap hG hlg hnx
        obtain ⟨p0, p1, p2⟩ := blkT hG2
        by_cases hvl : v ≤ u.hi
        · have dv : decide (v ≤ u.hi) = true := by simpa using hvl
          have hldt := run_loadAt_blk (P := Try.prog) wz g12 46 46 _ (0, 0) _ hG2 Try.underlying46 rfl lt_size
          go_wp2_with first | refine wpList_load_run rfl 46 (.tmp 12) rfl _ _ rfl hldt ?_
          refine (At_any u _ v wz (hK2.ownR HOW.out (fun k e => ⟨HOW.out.lt k e, fun hm => by have := HXS.out k hm; have := HOW.out.ge k e; omega⟩)).inR hUI).mono ?_
          rintro en w2 ⟨r, b, rfl, HA, hx2⟩
          have HRA := Lib.hid HA
          have hC7 := hx2.heap hB7
          have hC9 := hx2.heap hB9
          have hK3 := hK2.ext2 (Nat.le_refl _) hx2
          clear HA hB7 hB9 hK2 hx2 p0 p1 p2 hG2 hldt
          have hst := run_storeAt_blk (P := Try.prog) w2 g7 53 53 _ #[.int .i64 r.addr, .int .i64 r.ctx, .int .i64 r.stmt, .bool r.mark] hC7 rw_size rfl (by simp [Value.oneCell'])
          go_upto_region 14 with first | refine wpList_store_run rfl 53 (.tmp 7) (.tmp 64) rfl _ _ _ rfl rfl hst ?_
          have V7 : (w2.setRow g7 #[.int .i64 r.addr, .int .i64 r.ctx, .int .i64 r.stmt, .bool r.mark]).heap[g7]? = some (.cells #[.int .i64 r.addr, .int .i64 r.ctx, .int .i64 r.stmt, .bool r.mark] 53 (0, 0)) := setRow_heap _ _ _ _ _ _ hC7
          have V9 := blk_grown hC9 (gsetRow w2 g7 #[.int .i64 r.addr, .int .i64 r.ctx, .int .i64 r.stmt, .bool r.mark]) (fun e => hl79 (by cases e; rfl))
          have hK4 := hK3.set2 (Nat.le_refl _) (gsetRow w2 g7 #[.int .i64 r.addr, .int .i64 r.ctx, .int .i64 r.stmt, .bool r.mark]) (by simp)
          clear hst hC7 hC9 hK3
          generalize w2.setRow g7 #[.int .i64 r.addr, .int .i64 r.ctx, .int .i64 r.stmt, .bool r.mark] = w3 at *
          have hG3 := hK4.heap hG hlg hnx
          have hldt := run_loadAt_blk (P := Try.prog) w3 g12 46 46 _ (0, 0) _ hG3 Try.underlying46 rfl lt_size
          go_wp2_with first | refine wpList_load_run rfl 46 (.tmp 12) rfl _ _ rfl hldt ?_
          refine (refAt_any u _ v w3 (hK4.ownR HOW.out (fun k e => ⟨HOW.out.lt k e, fun hm => by have := HXS.out k hm; have := HOW.out.ge k e; omega⟩)).inR hUI).mono ?_
          rintro en w4 ⟨r', b', rfl, HA, hx4⟩
          obtain ⟨rfl, rfl⟩ : r' = r ∧ b' = b := by
            have h := HA.trans HRA.out.symm
            injection h with h1 h2
            exact ⟨h1, h2⟩
          have hC7 := hx4.heap V7
          have hC9 := hx4.heap V9
          have hK5 := hK4.ext2 (Nat.le_refl _) hx4
          clear HA HRA V7 V9 hK4 hx4 hG3 hldt
          have hst := run_storeAt_blk (P := Try.prog) w4 g9 53 53 _ #[.int .i64 r'.addr, .int .i64 r'.ctx, .int .i64 r'.stmt, .bool r'.mark] hC9 rw_size rfl (by simp [Value.oneCell'])
          go_upto_region 15 with first | refine wpList_store_run rfl 53 (.tmp 9) (.tmp 70) rfl _ _ _ rfl rfl hst ?_
          have V9 : (w4.setRow g9 #[.int .i64 r'.addr, .int .i64 r'.ctx, .int .i64 r'.stmt, .bool r'.mark]).heap[g9]? = some (.cells #[.int .i64 r'.addr, .int .i64 r'.ctx, .int .i64 r'.stmt, .bool r'.mark] 53 (0, 0)) := setRow_heap _ _ _ _ _ _ hC9
          have V7 := blk_grown hC7 (gsetRow w4 g9 #[.int .i64 r'.addr, .int .i64 r'.ctx, .int .i64 r'.stmt, .bool r'.mark]) (fun e => hl79 (by cases e; rfl))
          have hK6 := hK5.set2 (Nat.le_refl _) (gsetRow w4 g9 #[.int .i64 r'.addr, .int .i64 r'.ctx, .int .i64 r'.stmt, .bool r'.mark]) (by simp)
          clear hst hC7 hC9 hK5
          generalize w4.setRow g9 #[.int .i64 r'.addr, .int .i64 r'.ctx, .int .i64 r'.stmt, .bool r'.mark] = w5' at *
          obtain ⟨p0, p1, p2, p3⟩ := blkR V7
          obtain ⟨s0, s1, s2, s3⟩ := blkR V9
          have hbb : (b' != b') = false := by simp
          have wv : IntKind.i64.wrap (v + 1) = v + 1 := by rw [IntKind.wrap_i64]; omega
          go_wp2_with fail
          go_roundw
          case rel => exact ⟨v + 1, r', r', by first | (with_reducible rfl) | go_num, by omega, V7, V9, hK6⟩
          case measure => simp [intOf]; omega
        · have dv : decide (v ≤ u.hi) = false := by simpa using hvl
          go_wp2_with fail
          go_loopw [83] (fun i wr => ∃ (k : Nat), k ≤ u.rows.length ∧ i = .int .i64 (k : Int) ∧ wr.heap[g7]? = some (.cells #[.int .i64 a7.addr, .int .i64 a7.ctx, .int .i64 a7.stmt, .bool a7.mark] 53 (0, 0)) ∧ wr.heap[g9]? = some (.cells #[.int .i64 a9.addr, .int .i64 a9.ctx, .int .i64 a9.stmt, .bool a9.mark] 53 (0, 0)) ∧ Kept wg.heap.size [g7, g9] wg wr) (fun i _ => u.rows.length - (intOf i).toNat)
          case atStart => exact ⟨0, by omega, rfl, hB7, hB9, hK2⟩
          case round =>
            clear hB7 hB9 hK2 p0 p1 p2 hG2 dv
            obtain ⟨k, hk, rfl, hB7, hB9, hK2⟩ := hrel
            obtain ⟨wq, rfl⟩ : ∃ W : World, W = wr := ⟨_, rfl⟩
            have hlr : u.rows.length ≤ 8000 := hln
            by_cases hlk : k < u.rows.length
            · have hik : (k : Int) < (u.rows.length : Int) := by omega
              have hOq := hK2.ownR HOW.out (fun k e => ⟨HOW.out.lt k e, fun hm => by have := HXS.out k hm; have := HOW.out.ge k e; omega⟩)
              have hat := fun (j : Nat) (hj : j < u.rows.length) => hOq.inR.at_ (k := 4) (fun _ _ => rfl) (by omega) hj
              obtain ⟨b8, o8, hAe, hrr⟩ := hat k hlk
              subst hAe
              have HNX : Hid (k + 1 < u.rows.length → wq.cell? ⟨b8, o8 + (k + 1) * 4, none⟩ = some (.int .i64 (endOf u k))) := Lib.hid (fun h1 => by
                obtain ⟨b3, o3, he, hr3⟩ := hat (k + 1) h1
                injection he with he
                injection he with e1 e2 _
                subst e1 e2
                unfold endOf
                rw [List.getElem?_eq_getElem h1]
                exact hr3 0 _ rfl)
              have HLS : Hid (¬ k + 1 < u.rows.length → endOf u k = u.hi) := Lib.hid (fun h1 => by
                unfold endOf
                rw [List.getElem?_eq_none (by omega)])
              have HAR := Lib.hid (at_row HOK.out hlk)
              clear hat hOq
              generalize u.rows[k] = r at *
              obtain ⟨ea, hea⟩ : ∃ e, e = endOf u k := ⟨_, rfl⟩
              have hbe := HAR.out.2
              rw [← hea] at HNX HLS HAR hbe
              clear hea
              have hld := lrow_load hrr
              obtain ⟨hst, hG15, hXG⟩ := box_new (P := Try.prog) wq 53 #[.int .i64 0, .int .i64 0, .int .i64 0, .bool false] #[.int .i64 r.addr, .int .i64 r.ctx, .int .i64 r.stmt, .bool r.mark] rw_size rfl (by simp [Value.oneCell'])
              go_upto_region 20 with first | refine wpList_load_run rfl 53 (.tmp 86) rfl _ _ rfl hld ?_ | refine wpList_store_run rfl 53 (.tmp 15) (.tmp 87) rfl _ _ _ rfl rfl hst ?_
              obtain ⟨g15, hg15⟩ : ∃ g, g = wq.heap.size := ⟨_, rfl⟩
              rw [← hg15] at hG15 hXG ⊢
              generalize (wq.alloc (.cells #[.int .i64 0, .int .i64 0, .int .i64 0, .bool false] 53)).setRow g15 #[.int .i64 r.addr, .int .i64 r.ctx, .int .i64 r.stmt, .bool r.mark] = wm at *
              dsimp only [Act.put]
              have hC7 := hXG.heap hB7
              have hC9 := hXG.heap hB9
              have hKm := hK2.ext2 (Nat.le_refl _) hXG
              have hGm := hKm.heap hG hlg hnx
              have HNM : Hid (k + 1 < u.rows.length → wm.cell? ⟨b8, o8 + (k + 1) * 4, none⟩ = some (.int .i64 ea)) := Lib.hid (fun h => hXG.cell (HNX.out h))
              clear hst hld hrr hXG hB7 hB9 hK2 hg15 HNX
              obtain ⟨p0, p1, p2⟩ := blkT hGm
              obtain ⟨k1, hk1⟩ : ∃ k1, k1 = k + 1 := ⟨_, rfl⟩
              rw [← hk1] at HNM HLS
              have wk : IntKind.i64.wrap ((k : Int) + 1) = (k1 : Int) := by rw [IntKind.wrap_i64]; omega
              have hk1l : k1 ≤ u.rows.length := by omega
              have HK1 := Lib.hid hk1
              clear hk1
              go_upto_if 95 with fail
              go_cut [16] (fun s wx => s = .int .i64 ea ∧ wx = wm)
              case first =>
                by_cases hn : k1 < u.rows.length
                · have hcell := HNM.out hn
                  have hkn : (k1 : Int) < (u.rows.length : Int) := by omega
                  have dn : decide (k1 < u.rows.length) = true := by simpa using hn
                  rw [dn]
                  go_wp2_with fail
                  go_meet
                  exact ⟨rfl, rfl⟩
                · have hh := HLS.out hn
                  have dn : decide (k1 < u.rows.length) = false := by simp; omega
                  rw [dn]
                  have HH := Lib.hid hh
                  clear hh
                  go_wp2_with fail
                  go_meet
                  exact ⟨by rw [HH.out], rfl⟩
              obtain ⟨rfl, rfl⟩ := hcut
              obtain ⟨wn, rfl⟩ : ∃ W : World, W = wc := ⟨_, rfl⟩
              clear p0 p1 p2
              have hldt := run_loadAt_blk (P := Try.prog) wn g12 46 46 _ (0, 0) _ hGm Try.underlying46 rfl lt_size
              have we : IntKind.i64.wrap (ea - 1) = ea - 1 := by rw [IntKind.wrap_i64]; omega
              go_wp2_with first | refine wpList_load_run rfl 46 (.tmp 12) rfl _ _ rfl hldt ?_
              refine (At_any u _ (ea - 1) wn (hKm.ownR HOW.out (fun k e => ⟨HOW.out.lt k e, fun hm => by have := HXS.out k hm; have := HOW.out.ge k e; omega⟩)).inR hUI).mono ?_
              rintro en w2 ⟨r2, b2, rfl, HA, hx2⟩
              obtain ⟨rfl, rfl⟩ : r2 = r ∧ b2 = true := by
                have h := HA.trans HAR.out.1
                injection h with h1 h2
                exact ⟨h1, h2⟩
              clear HA HAR HNM HLS hldt we
              obtain ⟨hst, hG17, hXG⟩ := box_new (P := Try.prog) w2 53 #[.int .i64 0, .int .i64 0, .int .i64 0, .bool false] #[.int .i64 r2.addr, .int .i64 r2.ctx, .int .i64 r2.stmt, .bool r2.mark] rw_size rfl (by simp [Value.oneCell'])
              go_upto_region 24 with first | refine wpList_store_run rfl 53 (.tmp 17) (.tmp 108) rfl _ _ _ rfl rfl hst ?_
              obtain ⟨g17, hg17⟩ : ∃ g, g = w2.heap.size := ⟨_, rfl⟩
              rw [← hg17] at hG17 hXG ⊢
              generalize (w2.alloc (.cells #[.int .i64 0, .int .i64 0, .int .i64 0, .bool false] 53)).setRow g17 #[.int .i64 r2.addr, .int .i64 r2.ctx, .int .i64 r2.stmt, .bool r2.mark] = w6 at *
              have hX26 := hx2.trans hXG
              have hD7 := hX26.heap hC7
              have hD9 := hX26.heap hC9
              have hK6 := hKm.ext2 (Nat.le_refl _) hX26
              have hH15 := hX26.heap hG15
              obtain ⟨p0, p1, p2, p3⟩ := blkR hG17
              obtain ⟨s0, s1, s2, s3⟩ := blkR hH15
              clear hst hXG hx2 hX26 hC7 hC9 hKm hG15 hGm hg17
              go_wp2_with fail
              go_roundw
              case rel => exact ⟨k1, hk1l, by first | (with_reducible rfl) | go_num, hD7, hD9, hK6⟩
              case measure => have := HK1.out; simp [intOf]; omega
            · have hik : ¬ (k : Int) < (u.rows.length : Int) := by omega
              have hKe := HKG.out
              go_wp2_with fail
              go_roundw
              case rel => exact ⟨j + 1, a7, a9, by omega, by first | (with_reducible rfl) | go_num, hB7, hB9, hKe.trans (hK2.low' hKe.size)⟩
              case measure => simp [intOf]; omega
    · have hij : ¬ (j : Int) < (lx.length : Int) := by omega
      have hEw := hK.ext hET hET.size HXW.out
      go_wp2_with fail
      refine (known18_any wo).mono ?_
      rintro en w8 ⟨rfl, hx8⟩
      go_wp2_with fail
      go_ret
      exact ⟨rfl, hEw.trans hx8⟩
end Go.Proofs.Ytokmbdeafjmcjaa
