/- The bytes of frame tables, and the walk of cfi.Encode. -/
import Derived.Test.YtokmbdeafjmcjaaCfU
import Derived.Test.YtokmbdeafjmcjaaLinF
namespace Go.Proofs.Ytokmbdeafjmcjaa
open Go.RowKit
set_option linter.unusedVariables false
set_option linter.unusedSimpArgs false

def stepsN (lo : Int) : List Stp → List Int
  | [] => []
  | s :: l => (s.addr - lo) :: s.off :: stepsN s.addr l
def lastA (lo : Int) : List Stp → Int
  | [] => lo
  | s :: l => lastA s.addr l
theorem lastA_snoc (s : Stp) : ∀ (l : List Stp) (lo : Int), lastA lo (l ++ [s]) = s.addr
  | [], _ => rfl
  | x :: l, lo => lastA_snoc s l x.addr
theorem stepsN_snoc (s : Stp) : ∀ (l : List Stp) (lo : Int), stepsN lo (l ++ [s]) = stepsN lo l ++ [s.addr - lastA lo l, s.off]
  | [], lo => by simp [stepsN, lastA]
  | x :: l, lo => by
    simp only [List.cons_append, stepsN, lastA]
    rw [stepsN_snoc s l x.addr]
def objN (o : Obj) : List Int := [o.ctx, o.var, o.slot, o.words]
def tabN (t : FTab) : List Int := [t.lo, t.hi, (t.steps.length : Int)] ++ (stepsN t.lo t.steps ++ ([(t.objs.length : Int)] ++ t.objs.flatMap objN))
def numB (vs : List Int) : List UInt8 := vs.flatMap uintB
theorem numB_app (a b : List Int) : numB (a ++ b) = numB a ++ numB b := List.flatMap_append
theorem numB_len : ∀ {vs : List Int}, (∀ v ∈ vs, v ≤ 9223372036854775807) → (numB vs).length ≤ 10 * vs.length
  | [], _ => by simp [numB]
  | v :: l, h => by
    have h1 := uintB_len (h v (by simp))
    have h2 := numB_len (vs := l) (fun x hx => h x (by simp [hx]))
    simp only [numB, List.flatMap_cons, List.length_append, List.length_cons] at *
    omega
def encFs (l : List FTab) : List UInt8 := numB [(l.length : Int)] ++ l.flatMap (fun t => numB (tabN t))
open Classical in
noncomputable def EncF (l : List FTab) : List UInt8 := if RightF l then (if (encFs l).length ≤ 60000 then encFs l else []) else []
theorem okStps_mem {hi : Int} : ∀ {l : List Stp} {nx : Int}, okStps nx hi l → ∀ s ∈ l, nx ≤ s.addr ∧ s.addr < hi ∧ 0 ≤ s.off ∧ s.off ≤ 4096
  | [], _, _, s, hs => by simp at hs
  | r :: l, nx, h, s, hs => by
    have h1 := h.1
    unfold okStp at h1
    rcases List.mem_cons.1 hs with rfl | hs
    · omega
    · have := okStps_mem h.2 s hs
      omega
theorem okFs_mem : ∀ {l : List FTab} {e : Int}, 0 ≤ e → okFs e l → ∀ t ∈ l, (0 ≤ t.lo ∧ t.lo ≤ t.hi ∧ t.hi ≤ 1048576) ∧ okStps t.lo t.hi t.steps ∧ okObjs t.objs
  | [], _, _, _, t, ht => by simp at ht
  | s :: l, e, he, h, t, ht => by
    obtain ⟨h1, h2, h3, h4⟩ := h
    unfold okF at h1
    rcases List.mem_cons.1 ht with rfl | ht
    · exact ⟨by omega, h2, h3⟩
    · exact okFs_mem (e := s.hi) (by omega) h4 t ht
theorem itemsN_mem {l : List FTab} {t : FTab} (h : t ∈ l) : t.steps.length + t.objs.length ≤ itemsN l := by
  induction l with
  | nil => simp at h
  | cons s l ih =>
    simp only [itemsN, List.map_cons, List.sum_cons] at ih ⊢
    rcases List.mem_cons.1 h with rfl | h
    · omega
    · have := ih h
      omega
theorem RightF.mem {l : List FTab} (h : RightF l) {t : FTab} (ht : t ∈ l) : (0 ≤ t.lo ∧ t.lo ≤ t.hi ∧ t.hi ≤ 1048576) ∧ okStps t.lo t.hi t.steps ∧ okObjs t.objs ∧ t.steps.length + t.objs.length ≤ 8000 := by
  obtain ⟨h1, h2, h3⟩ := okFs_mem (by omega) h.2.1 t ht
  have h4 := itemsN_mem ht
  have h5 := h.2.2
  exact ⟨h1, h2, h3, by omega⟩
theorem RightF.I {l : List FTab} (h : RightF l) {t : FTab} (ht : t ∈ l) : t.I := by
  obtain ⟨h1, h2, h3, h4⟩ := h.mem ht
  exact ⟨by omega, by omega, by omega, by omega⟩
set_option maxHeartbeats 4000000 in
set_option maxRecDepth 100000 in
theorem appendNumbers_any (x : Value) (l : List UInt8) (gy n : Nat) (vs : List Int) (cs : Array Value) (base : Nat) (w : World) (hx : OwnV bv 5 base w x l) (hy : w.heap[gy]? = some (.cells cs 3 (0, 0))) (hcs : cs.toList = vs.map iv) (hn : n = vs.length)
    (hvs : ∀ v ∈ vs, v ≤ 9223372036854775807) (hb : base ≤ w.heap.size) (hl : l.length ≤ 900000) (hn4 : n ≤ 4) :
    Calls Try.prog 51 #[x, .slice (some ⟨gy, 0, none⟩) n n] w fun en w' => ∃ y, en = .returned y ∧ OwnV bv 5 base w' y (l ++ numB vs) ∧ Grew w w' x y := by
  have HN := Lib.hid hn
  have HC := Lib.hid hcs
  have HV := Lib.hid hvs
  clear hn hcs hvs
  go_enter Try.func51, Try.ntmps51
  go_wp2_with fail
  go_loopw [0, 9] (fun v i wr => ∃ (k : Nat), k ≤ n ∧ i = .int .i64 (k : Int) ∧ OwnV bv 5 base wr v (l ++ numB (vs.take k)) ∧ Grew w wr x v ∧ wr.heap[gy]? = some (.cells cs 3 (0, 0)) ∧ base ≤ wr.heap.size) (fun _ i _ => n - (intOf i).toNat)
  case atStart => exact ⟨0, by omega, rfl, by simpa [numB] using hx, Grew.refl _ _, hy, hb⟩
  case round =>
    obtain ⟨k, hk, rfl, hown, hgr, hyw, hbw⟩ := hrel
    obtain ⟨wo, rfl⟩ : ∃ W : World, W = wr := ⟨_, rfl⟩
    by_cases hlt : k < n
    · have hik : (k : Int) < (n : Int) := by omega
      have hkv : k < vs.length := by rw [← HN.out]; exact hlt
      have hcell : wo.cell? ⟨gy, k, none⟩ = some (.int .i64 vs[k]) := blk_at hyw k _ (by
        rw [← Array.getElem?_toList, HC.out, List.getElem?_map, List.getElem?_eq_getElem hkv]; rfl)
      have HTK := Lib.hid (List.take_succ_eq_append_getElem hkv)
      have hvk := HV.out _ (List.getElem_mem hkv)
      have hlen : (l ++ numB (vs.take k)).length ≤ 900100 := by
        have h1 := numB_len (vs := vs.take k) (fun v hv => HV.out v (List.mem_of_mem_take hv))
        rw [List.length_take] at h1
        rw [List.length_append]
        omega
      generalize vs[k] = v at *
      go_wp2_with fail
      refine (AppendUint_any _ [] v wo (InV.nil wo) (by simp) hvk).mono ?_
      rintro en w5 ⟨y5, rfl, ho5, he5⟩
      have hi5 : InB w5 y5 (uintB v) := by simpa using ho5.toV.inV
      have hown5 := hown.ext he5
      have hyw5 := he5.heap hyw
      have hgr5 := hgr.trans (Ext.grew he5 _)
      have hbw5 := Nat.le_trans hbw he5.size
      have hul := uintB_len hvk
      obtain ⟨A5, c5, hv5, _, _⟩ := id hi5
      obtain ⟨n5, hn5⟩ : ∃ m, m = (uintB v).length := ⟨_, rfl⟩
      rw [← hn5] at hv5 hul
      have HN5 := Lib.hid hn5
      subst hv5
      clear ho5 he5 hown hyw hgr hcell hbw hn5
      obtain ⟨cu, hcu⟩ : ∃ c, c = l ++ numB (vs.take k) := ⟨_, rfl⟩
      rw [← hcu] at hown5 hlen
      have HCU := Lib.hid hcu
      clear hcu
      go_wp2_with (at_builtin; go_must (refine wpList_appendV elem_u8 (fun _ => rfl) rfl (.tmp 13) (.tmp 15) rfl base _ cu rfl hown5 _ (uintB v) rfl hi5 (by have := HN5.out; omega) (by omega) hbw5 (Hold.out ?_)))
      refine Hold.mk fun v9 w9 ho9 hg9 => ?_
      have hy9 := blk_grown hyw5 hg9.grown (fun e => hown5.ne_blk hyw5 (by decide) e.symm)
      have hgr9 := hgr5.trans hg9
      have hb9 := Nat.le_trans hbw5 hg9.grown.size
      have HO : OwnV bv 5 base w9 v9 (l ++ numB (vs.take (k + 1))) := by
        rw [HTK.out, numB_app, ← List.append_assoc, ← HCU.out]
        have : numB [v] = uintB v := by simp [numB]
        rw [this]
        exact ho9
      clear ho9 hg9 hgr5 hyw5 hown5 hbw5 hi5
      go_wp2_with fail
      go_roundw
      case rel => exact ⟨k + 1, by omega, by first | (with_reducible rfl) | go_num, HO, hgr9, hy9, hb9⟩
      case measure => simp [intOf]; omega
    · have hik : ¬ (k : Int) < (n : Int) := by omega
      have HO : OwnV bv 5 base wo u0 (l ++ numB vs) := by
        have h := hown
        rw [List.take_of_length_le (by have := HN.out; omega)] at h
        exact h
      clear hown
      go_wp2_with fail
      go_ret
      exact ⟨_, rfl, HO, hgr⟩
set_option maxHeartbeats 40000000 in
set_option maxRecDepth 100000 in
theorem FEncode_any (l : List FTab) (v : Value) (w : World) (hv : FTabs w v l) (hI : ∀ t ∈ l, t.I) (hl : l.length ≤ 9223372036854775807) : Calls Try.prog 18 #[v] w (EncPost (EncF l) w) := by
  obtain ⟨A, c, rfl⟩ := hv.form
  have HV := Lib.hid hv
  have HI := Lib.hid hI
  clear hv hI
  go_enter Try.func18, Try.ntmps18
  go_wp2_with fail
  refine (FRight_any l _ w HV.out HI.out hl).mono ?_
  rintro en w1 ⟨r, rfl, hr, hx1⟩
  cases r with
  | false =>
    have HN : Hid (EncF l = []) := Lib.hid (by unfold EncF; rw [if_neg (fun h => by have := hr.2 h; cases this)])
    clear hr
    go_wp2_with fail
    refine bodyPost_ret (by simp [results, Try.results18, go_sem]; rfl) rfl ?_
    exact ⟨_, rfl, by rw [HN.out]; exact OwnV.nil _, hx1⟩
  | true =>
    have HR := Lib.hid (hr.1 rfl)
    clear hr
    have h8 := HR.out.1
    have hown : OwnV bv 5 w.heap.size w1 (.slice none 0 0) [] := OwnV.nil _
    have hz0 : ([] : List UInt8).length = 0 := rfl
    have hAN := (Ext.refl w1).alloc (.cells #[.int .i64 (l.length : Int)] 3)
    have hBN := heap_alloc_new w1 (.cells #[.int .i64 (l.length : Int)] 3)
    have hoN := hown.ext hAN
    have hsN := Nat.le_trans hx1.size hAN.size
    go_wp2_with fail
    refine (appendNumbers_any _ [] _ 1 [(l.length : Int)] #[.int .i64 (l.length : Int)] w.heap.size _ hoN hBN rfl rfl (by simp only [List.mem_cons, List.not_mem_nil, or_false, forall_eq_or_imp, forall_eq]; omega) hsN (by omega) (by omega)).mono ?_
    rintro en w2 ⟨y2, rfl, hown2, hgr2⟩
    have hX2 := hgr2.ext (hx1.trans hAN) hoN.ge
    have hown3 : OwnV bv 5 w.heap.size w2 y2 (numB [(l.length : Int)]) := by simpa using hown2
    have hcl0 := numB_len (vs := [(l.length : Int)]) (by simp; omega)
    simp only [List.length_cons, List.length_nil] at hcl0
    clear hAN hBN hoN hsN hgr2 hown hown2 hx1
    go_wp2_with fail
    go_loopw [3, 20] (fun v i wr => ∃ (j N : Nat) (cur : List UInt8), j ≤ l.length ∧ i = .int .i64 (j : Int) ∧ Hid (cur = numB [(l.length : Int)] ++ (l.take j).flatMap (fun t => numB (tabN t))) ∧ cur.length ≤ 10 + 40 * j + 40 * N ∧ N ≤ 8000 ∧ Hid (N = itemsN (l.take j)) ∧ OwnV bv 5 w.heap.size wr v cur ∧ Ext w wr) (fun _ i _ => l.length - (intOf i).toNat)
    case atStart => exact ⟨0, 0, _, by omega, rfl, Lib.hid (by simp), by omega, by omega, Lib.hid (by simp [itemsN]), hown3, hX2⟩
    case round =>
      clear hown3 hX2 hcl0
      obtain ⟨j, N, cur, hj, rfl, HC, hcl, hN, HN, hown, hX⟩ := hrel
      obtain ⟨wo, rfl⟩ : ∃ wo : World, wo = wr := ⟨_, rfl⟩
      by_cases hlt : j < l.length
      · have hij : (j : Int) < (l.length : Int) := by omega
        obtain ⟨bb, oo, y, z, rfl, hra0, hrw1, hrw2⟩ := HV.out.at_ hlt
        have hra : wo.rangeAt bb (oo + j * 4) (ftabCells (l[j], y, z)) := fun i u hu => hX.cell (hra0 i u hu)
        have HSU := Lib.hid (itemsN_succ hlt)
        have HTK := Lib.hid (List.take_succ_eq_append_getElem hlt)
        have HLE := Lib.hid (itemsN_le' hlt)
        obtain ⟨hm1, hm2, hm3, hm4⟩ := HR.out.mem (List.getElem_mem hlt)
        clear hra0
        generalize l[j] = t at *
        have HOS := Lib.hid (okStps_mem hm2)
        have HOO := Lib.hid hm3.1
        have hrl8 : N + (t.steps.length + t.objs.length) ≤ 8000 := by
          have h1 := HR.out.2.2
          have h2 := HLE.out
          rw [← HN.out] at h2
          omega
        clear hm2 hm3 HLE
        obtain ⟨A2, c2, rfl, _, _⟩ := id hrw1
        obtain ⟨A3, c3, rfl, _, _⟩ := id hrw2
        have HW1 := Lib.hid hrw1
        have HW2 := Lib.hid hrw2
        have hld := ftab_load hra
        obtain ⟨hst, hG, hXG⟩ := box_new (P := Try.prog) wo 27 #[.int .i64 0, .int .i64 0, .slice none 0 0, .slice none 0 0] #[.int .i64 t.lo, .int .i64 t.hi, .slice A2 t.steps.length c2, .slice A3 t.objs.length c3] ft_size rfl (by simp [Value.oneCell'])
        go_upto_region 7 with first | refine wpList_load_run rfl 27 (.tmp 22) rfl _ _ rfl hld ?_ | refine wpList_store_run rfl 27 (.tmp 5) (.tmp 23) rfl _ _ _ rfl rfl hst ?_
        obtain ⟨g5, hg5⟩ : ∃ g, g = wo.heap.size := ⟨_, rfl⟩
        rw [← hg5] at hG hXG ⊢
        generalize (wo.alloc (.cells #[.int .i64 0, .int .i64 0, .slice none 0 0, .slice none 0 0] 27)).setRow g5 #[.int .i64 t.lo, .int .i64 t.hi, .slice A2 t.steps.length c2, .slice A3 t.objs.length c3] = wg at *
        dsimp only [Act.put]
        obtain ⟨r0, r1, r2, r3⟩ := blkR hG
        have hXX := hX.trans hXG
        replace hown := hown.ext hXG
        clear hst hld hra hXG hX hg5 hrw1 hrw2
        obtain ⟨n2, hn2⟩ : ∃ n, n = t.steps.length := ⟨_, rfl⟩
        obtain ⟨n3, hn3⟩ : ∃ n, n = t.objs.length := ⟨_, rfl⟩
        rw [← hn2] at r2 hrl8 HSU hm4
        rw [← hn3] at r3 hrl8 HSU hm4
        have HN2 := Lib.hid hn2
        have HN3 := Lib.hid hn3
        have hcw : cur.length ≤ 10 + 40 * j + 40 * N := hcl
        rw [← hn2, ← hn3] at hG
        clear hn2 hn3
        have hAN := (Ext.refl wg).alloc (.cells #[.int .i64 t.lo, .int .i64 t.hi, .int .i64 (n2 : Int)] 3)
        have hBN := heap_alloc_new wg (.cells #[.int .i64 t.lo, .int .i64 t.hi, .int .i64 (n2 : Int)] 3)
        have hoN := hown.ext hAN
        have hsN := Nat.le_trans hXX.size hAN.size
        go_wp2_with fail
        refine (appendNumbers_any _ cur _ 3 [t.lo, t.hi, (n2 : Int)] #[.int .i64 t.lo, .int .i64 t.hi, .int .i64 (n2 : Int)] w.heap.size _ hoN hBN rfl rfl (by simp only [List.mem_cons, List.not_mem_nil, or_false, forall_eq_or_imp, forall_eq]; omega) hsN (by omega) (by omega)).mono ?_
        rintro en w2 ⟨y2, rfl, hown2, hgr2⟩
        have hX2 := hgr2.ext (hXX.trans hAN) hoN.ge
        have hG2 := blk_grown (hAN.heap hG) hgr2.grown (fun e => hoN.ne_blk (hAN.heap hG) (by decide) e.symm)
        have hl2 := numB_len (vs := [t.lo, t.hi, (n2 : Int)]) (by simp only [List.mem_cons, List.not_mem_nil, or_false, forall_eq_or_imp, forall_eq]; omega)
        simp only [List.length_cons, List.length_nil] at hl2
        obtain ⟨cur2, hc2⟩ : ∃ c, c = cur ++ numB [t.lo, t.hi, (n2 : Int)] := ⟨_, rfl⟩
        have hcl2 : cur2.length ≤ 40 + 40 * j + 40 * N := by rw [hc2, List.length_append]; omega
        rw [← hc2] at hown2
        have HC2 := Lib.hid hc2
        clear hAN hBN hoN hsN hgr2 hown hXX hG r0 r1 r2 r3 hl2 hc2 hcw hcl
        obtain ⟨r0, r1, r2, r3⟩ := blkR hG2
        go_wp2_with fail
        clear r0 r1 r2 r3
        go_loopw [3, 6, 39] (fun v li i wr => ∃ (k : Nat) (cu : List UInt8) (last : Int), k ≤ n2 ∧ i = .int .i64 (k : Int) ∧ li = .int .i64 last ∧ (0 ≤ last ∧ last ≤ 1048576) ∧ Hid (cu = cur2 ++ numB (stepsN t.lo (t.steps.take k))) ∧ Hid (last = lastA t.lo (t.steps.take k)) ∧ cu.length ≤ 40 + 40 * j + 40 * N + 40 * k ∧ OwnV bv 5 w.heap.size wr v cu ∧ wr.heap[g5]? = some (.cells #[.int .i64 t.lo, .int .i64 t.hi, .slice A2 n2 c2, .slice A3 n3 c3] 27 (0, 0)) ∧ Ext w wr) (fun _ _ i _ => n2 - (intOf i).toNat)
        case atStart => exact ⟨0, cur2, t.lo, by omega, rfl, rfl, by omega, Lib.hid (by simp [stepsN, numB]), Lib.hid (by simp [lastA]), by omega, hown2, hG2, hX2⟩
        case round =>
          clear hown2 hG2 hX2
          obtain ⟨k, cu, last, hk, rfl, rfl, hla, HCU, HLA, hcul, hown, hG, hX⟩ := hrel
          obtain ⟨wz, rfl⟩ : ∃ wz : World, wz = wr := ⟨_, rfl⟩
          by_cases hltk : k < n2
          · have hik : (k : Int) < (n2 : Int) := by omega
            have hltk' : k < t.steps.length := by rw [← HN2.out]; exact hltk
            obtain ⟨b2, o2, hAe, hrs⟩ := (HW1.out.ext hX).at_ (k := 2) (fun _ _ => rfl) (by omega) hltk'
            subst hAe
            have HTS := Lib.hid (List.take_succ_eq_append_getElem hltk')
            have hso := HOS.out _ (List.getElem_mem hltk')
            generalize t.steps[k] = r at *
            have hld := stp_load hrs
            obtain ⟨hst, hG8, hXG⟩ := box_new (P := Try.prog) wz 78 #[.int .i64 0, .int .i64 0] #[.int .i64 r.addr, .int .i64 r.off] sp_size rfl (by simp [Value.oneCell'])
            go_upto_region 12 with first | refine wpList_load_run rfl 78 (.tmp 41) rfl _ _ rfl hld ?_ | refine wpList_store_run rfl 78 (.tmp 8) (.tmp 42) rfl _ _ _ rfl rfl hst ?_
            obtain ⟨g8, hg8⟩ : ∃ g, g = wz.heap.size := ⟨_, rfl⟩
            rw [← hg8] at hG8 hXG ⊢
            generalize (wz.alloc (.cells #[.int .i64 0, .int .i64 0] 78)).setRow g8 #[.int .i64 r.addr, .int .i64 r.off] = wy at *
            dsimp only [Act.put]
            obtain ⟨r0, r1⟩ := blk2 hG8
            have hXX := hX.trans hXG
            have hGy := hXG.heap hG
            replace hown := hown.ext hXG
            have hwr : IntKind.i64.wrap (r.addr - last) = r.addr - last := by rw [IntKind.wrap_i64]; omega
            clear hst hld hrs hXG hX hg8 hG
            have hAN := (Ext.refl wy).alloc (.cells #[.int .i64 (r.addr - last), .int .i64 r.off] 3)
            have hBN := heap_alloc_new wy (.cells #[.int .i64 (r.addr - last), .int .i64 r.off] 3)
            have hoN := hown.ext hAN
            have hsN := Nat.le_trans hXX.size hAN.size
            go_wp2_with fail
            refine (appendNumbers_any _ cu _ 2 [r.addr - last, r.off] #[.int .i64 (r.addr - last), .int .i64 r.off] w.heap.size _ hoN hBN rfl rfl (by simp only [List.mem_cons, List.not_mem_nil, or_false, forall_eq_or_imp, forall_eq]; omega) hsN (by omega) (by omega)).mono ?_
            rintro en w2 ⟨y2, rfl, hown2, hgr2⟩
            have hX2 := hgr2.ext (hXX.trans hAN) hoN.ge
            have hG2 := blk_grown (hAN.heap hGy) hgr2.grown (fun e => hoN.ne_blk (hAN.heap hGy) (by decide) e.symm)
            have hG82 := blk_grown (hAN.heap hG8) hgr2.grown (fun e => hoN.ne_blk (hAN.heap hG8) (by decide) e.symm)
            have hl2 := numB_len (vs := [r.addr - last, r.off]) (by simp only [List.mem_cons, List.not_mem_nil, or_false, forall_eq_or_imp, forall_eq]; omega)
            simp only [List.length_cons, List.length_nil] at hl2
            obtain ⟨cun, hcn⟩ : ∃ c, c = cu ++ numB [r.addr - last, r.off] := ⟨_, rfl⟩
            have hcln : cun.length ≤ 40 + 40 * j + 40 * N + 40 * (k + 1) := by rw [hcn, List.length_append]; omega
            rw [← hcn] at hown2
            have HCN : Hid (cun = cur2 ++ numB (stepsN t.lo (t.steps.take (k + 1)))) := Lib.hid (by
              rw [hcn, HCU.out, HTS.out, stepsN_snoc, numB_app, List.append_assoc, ← HLA.out])
            have HLN : Hid (r.addr = lastA t.lo (t.steps.take (k + 1))) := Lib.hid (by rw [HTS.out, lastA_snoc])
            clear hAN hBN hoN hsN hgr2 hown hXX hGy hG8 r0 r1 hl2 hcn hwr
            obtain ⟨r0, r1⟩ := blk2 hG82
            go_wp2_with fail
            go_roundw
            case rel => exact ⟨k + 1, cun, r.addr, by omega, by first | (with_reducible rfl) | go_num, rfl, by omega, HCN, HLN, hcln, hown2, hG2, hX2⟩
            case measure => simp [intOf]; omega
          · have hik : ¬ (k : Int) < (n2 : Int) := by omega
            have HCS : Hid (cu = cur2 ++ numB (stepsN t.lo t.steps)) := Lib.hid (by have := HCU.out; rw [List.take_of_length_le (by have := HN2.out; omega)] at this; exact this)
            obtain ⟨r0, r1, r2, r3⟩ := blkR hG
            have hAN := (Ext.refl wz).alloc (.cells #[.int .i64 (n3 : Int)] 3)
            have hBN := heap_alloc_new wz (.cells #[.int .i64 (n3 : Int)] 3)
            have hoN := hown.ext hAN
            have hsN := Nat.le_trans hX.size hAN.size
            go_wp2_with fail
            refine (appendNumbers_any _ cu _ 1 [(n3 : Int)] #[.int .i64 (n3 : Int)] w.heap.size _ hoN hBN rfl rfl (by simp only [List.mem_cons, List.not_mem_nil, or_false, forall_eq_or_imp, forall_eq]; omega) hsN (by omega) (by omega)).mono ?_
            rintro en w2 ⟨y2, rfl, hown2, hgr2⟩
            have hX2 := hgr2.ext (hX.trans hAN) hoN.ge
            have hG2 := blk_grown (hAN.heap hG) hgr2.grown (fun e => hoN.ne_blk (hAN.heap hG) (by decide) e.symm)
            have hl2 := numB_len (vs := [(n3 : Int)]) (by simp only [List.mem_cons, List.not_mem_nil, or_false, forall_eq_or_imp, forall_eq]; omega)
            simp only [List.length_cons, List.length_nil] at hl2
            obtain ⟨cur3, hc3⟩ : ∃ c, c = cu ++ numB [(n3 : Int)] := ⟨_, rfl⟩
            have hcl3 : cur3.length ≤ 40 + 40 * j + 40 * N + 40 * n2 + 10 := by rw [hc3, List.length_append]; omega
            rw [← hc3] at hown2
            have HC3 := Lib.hid hc3
            clear hAN hBN hoN hsN hgr2 hown hX hG r0 r1 r2 r3 hl2 hc3 hcul HCU HLA
            obtain ⟨r0, r1, r2, r3⟩ := blkR hG2
            go_wp2_with fail
            clear r0 r1 r2 r3 hik
            go_loopw [3, 64] (fun v i wr => ∃ (q : Nat) (cv : List UInt8), q ≤ n3 ∧ i = .int .i64 (q : Int) ∧ Hid (cv = cur3 ++ numB ((t.objs.take q).flatMap objN)) ∧ cv.length ≤ 50 + 40 * j + 40 * N + 40 * n2 + 40 * q ∧ OwnV bv 5 w.heap.size wr v cv ∧ wr.heap[g5]? = some (.cells #[.int .i64 t.lo, .int .i64 t.hi, .slice A2 n2 c2, .slice A3 n3 c3] 27 (0, 0)) ∧ Ext w wr) (fun _ i _ => n3 - (intOf i).toNat)
            case atStart => exact ⟨0, cur3, by omega, rfl, Lib.hid (by simp [numB]), by omega, hown2, hG2, hX2⟩
            case round =>
              clear hown2 hG2 hX2
              obtain ⟨q, cv, hq, rfl, HCV, hcvl, hown, hG, hX⟩ := hrel
              obtain ⟨wq, rfl⟩ : ∃ wq : World, wq = wr := ⟨_, rfl⟩
              by_cases hltq : q < n3
              · have hiq : (q : Int) < (n3 : Int) := by omega
                have hltq' : q < t.objs.length := by rw [← HN3.out]; exact hltq
                obtain ⟨b3, o3, hAe, hrs⟩ := (HW2.out.ext hX).at_ (k := 4) (fun _ _ => rfl) (by omega) hltq'
                subst hAe
                have HTS := Lib.hid (List.take_succ_eq_append_getElem hltq')
                have hso := HOO.out _ (List.getElem_mem hltq')
                generalize t.objs[q] = o at *
                unfold okObj at hso
                have hld := obj_load hrs
                obtain ⟨hst, hG8, hXG⟩ := box_new (P := Try.prog) wq 83 #[.int .i64 0, .int .i64 0, .int .i64 0, .int .i64 0] #[.int .i64 o.ctx, .int .i64 o.var, .int .i64 o.slot, .int .i64 o.words] ob_size rfl (by simp [Value.oneCell'])
                go_upto_region 19 with first | refine wpList_load_run rfl 83 (.tmp 66) rfl _ _ rfl hld ?_ | refine wpList_store_run rfl 83 (.tmp 10) (.tmp 67) rfl _ _ _ rfl rfl hst ?_
                obtain ⟨g8, hg8⟩ : ∃ g, g = wq.heap.size := ⟨_, rfl⟩
                rw [← hg8] at hG8 hXG ⊢
                generalize (wq.alloc (.cells #[.int .i64 0, .int .i64 0, .int .i64 0, .int .i64 0] 83)).setRow g8 #[.int .i64 o.ctx, .int .i64 o.var, .int .i64 o.slot, .int .i64 o.words] = wy at *
                dsimp only [Act.put]
                obtain ⟨r0, r1, r2, r3⟩ := blkR hG8
                have hXX := hX.trans hXG
                have hGy := hXG.heap hG
                replace hown := hown.ext hXG
                clear hst hld hrs hXG hX hg8 hG
                have hAN := (Ext.refl wy).alloc (.cells #[.int .i64 o.ctx, .int .i64 o.var, .int .i64 o.slot, .int .i64 o.words] 3)
                have hBN := heap_alloc_new wy (.cells #[.int .i64 o.ctx, .int .i64 o.var, .int .i64 o.slot, .int .i64 o.words] 3)
                have hoN := hown.ext hAN
                have hsN := Nat.le_trans hXX.size hAN.size
                go_wp2_with fail
                refine (appendNumbers_any _ cv _ 4 [o.ctx, o.var, o.slot, o.words] #[.int .i64 o.ctx, .int .i64 o.var, .int .i64 o.slot, .int .i64 o.words] w.heap.size _ hoN hBN rfl rfl (by simp only [List.mem_cons, List.not_mem_nil, or_false, forall_eq_or_imp, forall_eq]; omega) hsN (by omega) (by omega)).mono ?_
                rintro en w2 ⟨y2, rfl, hown2, hgr2⟩
                have hX2 := hgr2.ext (hXX.trans hAN) hoN.ge
                have hG2 := blk_grown (hAN.heap hGy) hgr2.grown (fun e => hoN.ne_blk (hAN.heap hGy) (by decide) e.symm)
                have hl2 := numB_len (vs := [o.ctx, o.var, o.slot, o.words]) (by simp only [List.mem_cons, List.not_mem_nil, or_false, forall_eq_or_imp, forall_eq]; omega)
                simp only [List.length_cons, List.length_nil] at hl2
                obtain ⟨cun, hcn⟩ : ∃ c, c = cv ++ numB [o.ctx, o.var, o.slot, o.words] := ⟨_, rfl⟩
                have hcln : cun.length ≤ 50 + 40 * j + 40 * N + 40 * n2 + 40 * (q + 1) := by rw [hcn, List.length_append]; omega
                rw [← hcn] at hown2
                have HCN : Hid (cun = cur3 ++ numB ((t.objs.take (q + 1)).flatMap objN)) := Lib.hid (by
                  rw [hcn, HCV.out, HTS.out, List.flatMap_append, numB_app, List.append_assoc]
                  simp [objN])
                clear hAN hBN hoN hsN hgr2 hown hXX hGy hG8 r0 r1 r2 r3 hl2 hcn
                go_wp2_with fail
                go_roundw
                case rel => exact ⟨q + 1, cun, by omega, by first | (with_reducible rfl) | go_num, HCN, hcln, hown2, hG2, hX2⟩
                case measure => simp [intOf]; omega
              · have hiq : ¬ (q : Int) < (n3 : Int) := by omega
                have HCE : Hid (cv = numB [(l.length : Int)] ++ (l.take (j + 1)).flatMap (fun t => numB (tabN t))) := Lib.hid (by
                  have h1 := HCV.out
                  rw [List.take_of_length_le (by have := HN3.out; omega)] at h1
                  rw [h1, HC3.out, HCS.out, HC2.out, HC.out, HTK.out, List.flatMap_append]
                  simp only [List.flatMap_cons, List.flatMap_nil, List.append_nil, tabN, numB_app, ← HN2.out, ← HN3.out, List.append_assoc])
                have HNN : Hid (N + (n2 + n3) = itemsN (l.take (j + 1))) := Lib.hid (by rw [HSU.out, ← HN.out])
                have hcle : cv.length ≤ 10 + 40 * (j + 1) + 40 * (N + (n2 + n3)) := by omega
                clear HCV hcvl
                go_wp2_with fail
                go_roundw
                case rel => exact ⟨j + 1, N + (n2 + n3), cv, by omega, by first | (with_reducible rfl) | go_num, HCE, hcle, hrl8, HNN, hown, hX⟩
                case measure => simp [intOf]; omega
      · have hij : ¬ (j : Int) < (l.length : Int) := by omega
        have HCE : Hid (cur = encFs l) := Lib.hid (by rw [HC.out, List.take_of_length_le (by omega)]; rfl)
        obtain ⟨A5, c5, hy5, _, _⟩ := hown.inV
        obtain ⟨n5, hn5⟩ : ∃ n5, n5 = cur.length := ⟨_, rfl⟩
        rw [← hn5] at hy5
        subst hy5
        have HN5 := Lib.hid hn5
        clear hn5 HC HN
        by_cases h6 : 60000 < n5
        · have d6 : decide ((60000 : Int) < (n5 : Int)) = true := by simp; omega
          have HE : Hid (EncF l = []) := Lib.hid (by unfold EncF; rw [if_pos HR.out, if_neg (by rw [← HCE.out, ← HN5.out]; omega)])
          go_wp2_with fail
          refine bodyPost_ret (by simp [results, Try.results18, go_sem]; rfl) rfl ?_
          exact ⟨_, rfl, by rw [HE.out]; exact OwnV.nil _, hX⟩
        · have d6 : decide ((60000 : Int) < (n5 : Int)) = false := by simp; omega
          have HE : Hid (EncF l = cur) := Lib.hid (by unfold EncF; rw [if_pos HR.out, if_pos (by rw [← HCE.out, ← HN5.out]; omega)]; exact HCE.out.symm)
          go_wp2_with fail
          refine bodyPost_ret (by simp [results, Try.results18, go_sem]; rfl) rfl ?_
          exact ⟨_, rfl, by rw [HE.out]; exact hown, hX⟩
end Go.Proofs.Ytokmbdeafjmcjaa
