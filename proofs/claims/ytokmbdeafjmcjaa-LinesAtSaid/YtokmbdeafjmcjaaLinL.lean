/- The walk of Decode, on the bytes of right tables, however they are written. -/
import Derived.Test.YtokmbdeafjmcjaaLinK
namespace Go.Proofs.Ytokmbdeafjmcjaa
open Go.RowKit
set_option linter.unusedVariables false

theorem lt_info : (Try.prog.info? 46).map (fun i => (i.zero, i.size, i.bytes)) = some (some (.agg #[.int .i64 0, .int .i64 0, .slice none 0 0]), 3, 40) := by kernel_rfl
theorem elem_lt : ElemN Try.prog 43 46 3 40 := by
  rcases hi : Try.prog.info? 46 with _ | i
  · have := lt_info; rw [hi] at this; cases this
  · have := lt_info
    rw [hi] at this
    simp only [Option.map_some, Option.some.injEq, Prod.mk.injEq] at this
    exact ⟨Try.underlying43, by omega, i, _, hi, this.1, this.2.1, this.2.2, rfl⟩
/-- a table and a program of it -/
structure Prg (z : LTab × List LOp) : Prop where
  ok : okOps (row0 z.1.lo) z.2
  rows : rowsOf (row0 z.1.lo) z.2 = z.1.rows
def prgB (z : LTab × List LOp) : List UInt8 := uintB z.1.lo ++ (uintB z.1.hi ++ (z.2.flatMap opB ++ [0]))
theorem okTabs_mem : ∀ {l : List LTab} {e : Int}, 0 ≤ e → okTabs e l → ∀ t ∈ l, (0 ≤ t.lo ∧ t.lo ≤ t.hi ∧ t.hi ≤ 1048576) ∧ okRows t.lo t.hi t.rows
  | [], _, _, _, t, ht => by simp at ht
  | s :: l, e, he, h, t, ht => by
    obtain ⟨h1, h2, h3⟩ := h
    unfold okTab at h1
    rcases List.mem_cons.1 ht with rfl | ht
    · exact ⟨by omega, h2⟩
    · exact okTabs_mem (e := s.hi) (by omega) h3 t ht
theorem rowsN_mem {l : List LTab} {t : LTab} (h : t ∈ l) : t.rows.length ≤ rowsN l := by
  induction l with
  | nil => simp at h
  | cons s l ih =>
    simp only [rowsN, List.map_cons, List.sum_cons] at ih ⊢
    rcases List.mem_cons.1 h with rfl | h
    · omega
    · have := ih h
      omega
theorem RightL.mem {l : List LTab} (h : RightL l) {t : LTab} (ht : t ∈ l) : (0 ≤ t.lo ∧ t.lo ≤ t.hi ∧ t.hi ≤ 1048576) ∧ okRows t.lo t.hi t.rows ∧ t.rows.length ≤ 8000 := by
  obtain ⟨h1, h2⟩ := okTabs_mem (by omega) h.2.1 t ht
  have h3 := rowsN_mem ht
  have h4 := h.2.2
  exact ⟨h1, h2, by omega⟩
theorem RightL.I {l : List LTab} (h : RightL l) {t : LTab} (ht : t ∈ l) : t.I := by
  obtain ⟨h1, h2, h3⟩ := h.mem ht
  exact ⟨by omega, by omega, by omega⟩
/-- tables of the call's own -/
def TabsOwn (base : Nat) (w : World) (v : Value) (l : List LTab) : Prop := ∃ zs : List (LTab × Value), zs.map Prod.fst = l ∧ OwnR ltabCells 3 46 base w v zs ∧ ∀ z ∈ zs, OwnR lrowCells 4 53 base w z.2 z.1.rows
theorem TabsOwn.in_ {base : Nat} {w : World} {v : Value} {l : List LTab} (h : TabsOwn base w v l) : LTabs w v l := by
  obtain ⟨zs, h1, h2, h3⟩ := h
  exact ⟨zs, h1, h2.inR, fun z hz => (h3 z hz).inR⟩
theorem TabsOwn.kept {base g : Nat} {w w' : World} {v : Value} {l : List LTab} {cs : Array Value} {fr : Nat × Nat} (h : TabsOwn base w v l) (hk : Kept w.heap.size [g] w w') (hb : w.heap[g]? = some (.cells cs 100 fr)) : TabsOwn base w' v l := by
  obtain ⟨zs, h1, h2, h3⟩ := h
  exact ⟨zs, h1, hk.heapR (base := 0) h2 (fun i hi => by simp only [List.mem_cons, List.not_mem_nil, or_false] at hi; subst hi; exact h2.ne_blk hb (by decide)), fun z hz => hk.heapR (base := 0) (h3 z hz) (fun i hi => by simp only [List.mem_cons, List.not_mem_nil, or_false] at hi; subst hi; exact (h3 z hz).ne_blk hb (by decide))⟩
theorem TabsOwn.ext {base : Nat} {w w' : World} {v : Value} {l : List LTab} (h : TabsOwn base w v l) (he : Ext w w') : TabsOwn base w' v l := by
  obtain ⟨zs, h1, h2, h3⟩ := h
  exact ⟨zs, h1, h2.ext he, fun z hz => (h3 z hz).ext he⟩
def DecPost (l : List LTab) (w : World) (en : Ending) (w' : World) : Prop := ∃ y, en = .returned (.tuple #[y, .int .i64 0]) ∧ TabsOwn w.heap.size w' y l ∧ Ext w w'
set_option maxHeartbeats 40000000 in
set_option maxRecDepth 100000 in
theorem Decode_any (x : Value) (b : List UInt8) (zs : List (LTab × List LOp)) (w : World) (hx : InB w x b) (hby : b = uintB zs.length ++ zs.flatMap prgB) (hp : ∀ z ∈ zs, Prg z) (hR : RightL (zs.map Prod.fst)) (hl : b.length ≤ 60000) : Calls Try.prog 34 #[x] w (DecPost (zs.map Prod.fst) w) := by
  obtain ⟨A, c, rfl, _, _⟩ := id hx
  obtain ⟨n0, hn0⟩ : ∃ n0, n0 = b.length := ⟨_, rfl⟩
  have HX := Lib.hid hx
  have HBY := Lib.hid hby
  have HP := Lib.hid hp
  have HR := Lib.hid hR
  have hz8 : zs.length ≤ 8 := by have := hR.1; simpa using this
  have hl' : b.length ≤ 1000000 := by omega
  have HL := Lib.hid hl'
  have hn6 : n0 ≤ 60000 := by omega
  have HN0 := Lib.hid hn0
  clear hby hp hR hl hl'
  rw [← hn0] at hx ⊢
  have hx' : InB w (.slice A n0 c) b := hx
  have HX0 := Lib.hid hx'
  clear hx hx' HX hn0
  go_enter Try.func34, Try.ntmps34
  have d6 : decide ((60000 : Int) < (n0 : Int)) = false := by simp; omega
  go_upto_region 4 with fail
  obtain ⟨gr, hgr⟩ : ∃ g, g = w.heap.size := ⟨_, rfl⟩
  have hB := heap_alloc_new w (.cells #[.slice A n0 c, .int .i64 0] 100)
  have hE := (Ext.refl w).alloc (.cells #[.slice A n0 c, .int .i64 0] 100)
  rw [← hgr] at hB ⊢
  have hlow : w.heap.size ≤ gr := by omega
  clear hgr
  generalize w.alloc (.cells #[.slice A n0 c, .int .i64 0] 100) = w1 at *
  go_wp2_with fail
  refine (rdU_any gr _ b _ (zs.length : Int) _ w1 (HX0.out.ext hE) hB (uintR_at (pre := []) (rest := zs.flatMap prgB) (by omega) (by omega) (by rw [HBY.out]; rfl)) HL.out).mono ?_
  rintro en w2 ⟨rfl, hb2, hg2⟩
  have hE2 := hE.grown hg2 (fun k e => by cases e; exact hlow)
  have d8 : decide ((8 : Int) < (zs.length : Int)) = false := by simp; omega
  rw [List.nil_append] at hb2
  clear hB hE hg2
  go_wp2_with fail
  go_loopw [7, 27] (fun v i wr => ∃ (j : Nat) (pr : List UInt8), j ≤ zs.length ∧ i = .int .i64 (j : Int) ∧ Hid (b = pr ++ (zs.drop j).flatMap prgB) ∧ wr.heap[gr]? = some (.cells #[.slice A n0 c, .int .i64 (pr.length : Int)] 100 (0, 0)) ∧ TabsOwn w.heap.size wr v ((zs.take j).map Prod.fst) ∧ Ext w wr) (fun _ i _ => zs.length - (intOf i).toNat)
  case atStart => exact ⟨0, uintB zs.length, by omega, rfl, Lib.hid HBY.out, hb2, ⟨[], rfl, OwnR.nil _, by simp⟩, hE2⟩
  case round =>
    clear hb2 hE2 d8
    obtain ⟨j, pr, hj, rfl, HB, hrd, hT, hX⟩ := hrel
    obtain ⟨wo, rfl⟩ : ∃ wo : World, wo = wr := ⟨_, rfl⟩
    by_cases hlt : j < zs.length
    · have hij : (j : Int) < (zs.length : Int) := by omega
      have HD := Lib.hid (List.drop_eq_getElem_cons hlt)
      have HTK := Lib.hid (List.take_succ_eq_append_getElem hlt)
      have hpz := HP.out _ (List.getElem_mem hlt)
      have hmz := HR.out.mem (List.mem_map_of_mem (List.getElem_mem hlt))
      generalize zs[j] = z at *
      obtain ⟨t, os⟩ := z
      obtain ⟨hm1, hm2, hm3⟩ := hmz
      have hst : St [gr] wo (fun W => InB W (.slice A n0 c) b) := fun W hk => HX0.out.ext (hk.ext hX hX.size (fun i hi => by simp only [List.mem_cons, List.not_mem_nil, or_false] at hi; subst hi; exact hlow))
      have hbb : b = pr ++ (uintB t.lo ++ (uintB t.hi ++ (os.flatMap opB ++ 0 :: (zs.drop (j + 1)).flatMap prgB))) := by
        rw [HB.out, HD.out]; simp [prgB, List.append_assoc]
      have hrows : (rowsOf (row0 t.lo) os).length ≤ 8000 := by have := hpz.rows; simp only at this; rw [this]; exact hm3
      have HPZ := Lib.hid hpz
      clear hpz
      go_wp2_with fail
      refine (table_any gr _ b pr _ t.lo t.hi os wo hst hrd hbb HL.out ⟨hm1.1, by have := hm1.2.1; have := hm1.2.2; omega⟩ ⟨by have := hm1.1; have := hm1.2.1; omega, hm1.2.2⟩ HPZ.out.ok hrows).mono ?_
      rintro en w3 ⟨y3, rfl, ho3, hrd3, hk3⟩
      have hX3 := hk3.ext hX hX.size (fun i hi => by simp only [List.mem_cons, List.not_mem_nil, or_false] at hi; subst hi; exact hlow)
      have hT3 := hT.kept hk3 hrd
      rw [HPZ.out.rows] at ho3
      have ho3' : OwnR lrowCells 4 53 w.heap.size w3 y3 t.rows := ho3.low hX.size
      obtain ⟨pn, hpn⟩ : ∃ pn, pn = pr ++ (uintB t.lo ++ (uintB t.hi ++ (os.flatMap opB ++ [0]))) := ⟨_, rfl⟩
      rw [← hpn] at hrd3
      have HB3 : Hid (b = pn ++ (zs.drop (j + 1)).flatMap prgB) := Lib.hid (by rw [hbb, hpn]; simp [List.append_assoc])
      clear hst hbb hrows hk3 hX hT hrd ho3 hpn HB
      obtain ⟨Y, cy, hy, _, _⟩ := ho3'.inR
      obtain ⟨n5, hn5⟩ : ∃ n5, n5 = t.rows.length := ⟨_, rfl⟩
      rw [← hn5] at hy
      subst hy
      clear hn5
      obtain ⟨hsto, hG, hXG⟩ := box_new (P := Try.prog) w3 46 #[.int .i64 0, .int .i64 0, .slice none 0 0] #[.int .i64 t.lo, .int .i64 t.hi, .slice Y n5 cy] lt_size rfl (by simp [Value.oneCell'])
      go_upto_region 13 with first | refine wpList_store_run rfl 46 (.tmp 8) (.tmp 32) rfl _ _ _ rfl rfl hsto ?_
      obtain ⟨g8, hg8⟩ : ∃ g, g = w3.heap.size := ⟨_, rfl⟩
      rw [← hg8] at hG hXG ⊢
      generalize (w3.alloc (.cells #[.int .i64 0, .int .i64 0, .slice none 0 0] 46)).setRow g8 #[.int .i64 t.lo, .int .i64 t.hi, .slice Y n5 cy] = w4 at *
      have hT4 := hT3.ext hXG
      have hX4 := hX3.trans hXG
      have hrd4 := hXG.heap hrd3
      have ho4 := ho3'.ext hXG
      clear hsto hXG hT3 hX3 hrd3 ho3' hg8
      obtain ⟨zt, hz1, hz2, hz3⟩ := hT4
      have HZ1 := Lib.hid hz1
      have HZ3 := Lib.hid hz3
      have hzl : zt.length ≤ 8 := by have : zt.length = ((zs.take j).map Prod.fst).length := by rw [← hz1]; simp
                                     rw [this]; simp; omega
      clear hz1 hz3
      have hldt := run_loadAt_blk (P := Try.prog) w4 g8 46 46 _ (0, 0) _ hG Try.underlying46 rfl lt_size
      have hA5 := (Ext.refl w4).alloc (.cells #[.int .i64 t.lo, .int .i64 t.hi, .slice Y n5 cy] 46)
      have hin5 : InR ltabCells (w4.alloc (.cells #[.int .i64 t.lo, .int .i64 t.hi, .slice Y n5 cy] 46)) (.slice (some ⟨w4.heap.size, 0, none⟩) 1 1) [(t, .slice Y n5 cy)] := (OwnR_one (f := ltabCells) w4 (t, .slice Y n5 cy) rfl 46).inR
      have hsz5 := Nat.le_trans hX4.size hA5.size
      go_wp2_with first | refine wpList_load_run rfl 46 (.tmp 8) rfl _ _ rfl hldt ?_ | refine wpList_rowOne elem_lt rfl (.tmp 38) rfl #[.int .i64 t.lo, .int .i64 t.hi, .slice Y n5 cy] rfl rfl (by omega) ?_ | (at_builtin; go_must (refine wpList_appendR elem_lt rfl (.tmp 37) (.tmp 39) rfl w.heap.size _ zt rfl (hz2.ext hA5) _ [(t, .slice Y n5 cy)] rfl hin5 (fun _ _ => rfl) (fun a ha u hu => by simp only [List.mem_singleton] at ha; subst ha; simp only [ltabCells, List.mem_cons, List.not_mem_nil, or_false] at hu; rcases hu with rfl | rfl | rfl <;> rfl) (by simp only [List.length_cons, List.length_nil]; omega) (by omega) hsz5 (Hold.out ?_)))
      refine Hold.mk fun v9 w9 ho9 hg9 => ?_
      have hTn : TabsOwn w.heap.size w9 v9 ((zs.take (j + 1)).map Prod.fst) := by
        refine ⟨zt ++ [(t, .slice Y n5 cy)], by rw [HTK.out, List.map_append, List.map_append, HZ1.out]; rfl, ho9, fun z hz => ?_⟩
        have hne : ∀ (z : LTab × Value), OwnR lrowCells 4 53 w.heap.size (w4.alloc (.cells #[.int .i64 t.lo, .int .i64 t.hi, .slice Y n5 cy] 46)) z.2 z.1.rows → OwnR lrowCells 4 53 w.heap.size w9 z.2 z.1.rows := fun z hzz => hzz.kept hg9.grown (row_ne hzz (hz2.ext hA5) (by decide))
        rcases List.mem_append.1 hz with hz | hz
        · exact hne z ((HZ3.out z hz).ext hA5)
        · simp only [List.mem_singleton] at hz
          subst hz
          exact hne _ (ho4.ext hA5)
      have hrd9 := blk_grown (hA5.heap hrd4) hg9.grown (fun e => hz2.ne_blk hrd4 (by decide) e.symm)
      have hX9 : Ext w w9 := hg9.ext (hX4.trans hA5) hz2.ge
      clear hldt hA5 hin5 hsz5 ho9 hg9 hrd4 hX4 hz2 ho4 hG
      go_wp2_with fail
      go_roundw
      case rel => exact ⟨j + 1, pn, by omega, by first | (with_reducible rfl) | go_num, HB3, hrd9, hTn, hX9⟩
      case measure => simp [intOf]; omega
    · have hij : ¬ (j : Int) < (zs.length : Int) := by omega
      have hpl : (pr.length : Int) = (n0 : Int) := by
        have h1 := HB.out
        rw [List.drop_of_length_le (by omega)] at h1
        simp only [List.flatMap_nil, List.append_nil] at h1
        rw [HN0.out, h1]
      have hTf : TabsOwn w.heap.size wo u7 (zs.map Prod.fst) := by rw [List.take_of_length_le (by omega)] at hT; exact hT
      clear hT HB
      rw [hpl] at hrd
      have q1 := blk_at hrd 1 _ rfl
      have dl : decide ((n0 : Int) < (n0 : Int)) = false := by simp
      go_wp2_with fail
      refine (Right_any (zs.map Prod.fst) _ wo hTf.in_ (fun t ht => HR.out.I ht) (by simp; omega)).mono ?_
      rintro en w5 ⟨r, rfl, hr, hx5⟩
      obtain rfl : r = true := hr.2 HR.out
      clear hr
      go_wp2_with fail
      refine bodyPost_ret (by simp [results, Try.results34, go_sem]; rfl) rfl ?_
      exact ⟨_, rfl, hTf.ext hx5, hX.trans hx5⟩
end Go.Proofs.Ytokmbdeafjmcjaa
