/- The walk of info.Encode. -/
import Derived.Test.YtopanbcodfkedaaInfE
namespace Go.Proofs.Ytopanbcodfkedaa
open Go.RowKit
set_option linter.unusedVariables false
set_option linter.unusedSimpArgs false

theorem attsN_le {l : List Att} (h : okAtts l) : ∀ v ∈ attsN l, v ≤ 9223372036854775807 := fun v hv => by
  obtain ⟨a, ha, hv⟩ := List.mem_flatMap.1 hv
  have h1 := h.2.1 a ha
  unfold okAtt at h1
  simp only [List.mem_cons, List.not_mem_nil, or_false] at hv
  rcases hv with rfl | rfl <;> omega
theorem attsN_len (l : List Att) : (attsN l).length = 2 * l.length := by
  unfold attsN
  induction l with
  | nil => rfl
  | cons a l ih => rw [List.flatMap_cons, List.length_append, ih]; simp; omega
theorem shapeB_len {e : Ent} (k : Bool) (h : okAtts e.attrs) (ht : 1 ≤ e.tag ∧ e.tag ≤ 63) : (shapeB e k).length ≤ 270 := by
  have h1 := numB_len (vs := shapeN e k) (fun v hv => by
    unfold shapeN at hv
    rcases List.mem_append.1 hv with h2 | h2
    · simp only [List.mem_cons, List.not_mem_nil, or_false] at h2
      have := h.1
      rcases h2 with rfl | rfl | rfl
      · omega
      · cases k <;> simp
      · omega
    · exact attsN_le h v h2)
  have h2 : (shapeN e k).length ≤ 27 := by
    unfold shapeN
    rw [List.length_append, attsN_len]
    have := h.1
    simp only [List.length_cons, List.length_nil]
    omega
  unfold shapeB
  omega
theorem valB_len {a : Att} (h : okAtt a) (hI : a.I) : (valB a).length ≤ 50 := by
  unfold valB
  have hv := hI.value
  unfold I64 at hv
  by_cases h1 : a.form = 1
  · rw [if_pos h1]
    have := uintB_len (v := a.value) hv.2
    omega
  by_cases h2 : a.form = 2
  · rw [if_neg h1, if_pos h2]
    have := leb_len10 (zig_lt hv.1 hv.2)
    omega
  by_cases h3 : a.form = 3
  · rw [if_neg h1, if_neg h2, if_pos h3, List.length_append, Array.length_toList]
    have ht : a.text.size ≤ 40 := by
      rcases h.2 with h4 | h4 | h4 | h4
      · exact absurd h4.1 (by omega)
      · exact absurd h4.1 (by omega)
      · exact h4.2.2
      · exact absurd h4.1 (by omega)
    have h10 := leb_len10 (u := a.text.size) (by omega)
    have e : a.text.data.size ≤ 40 := ht
    exact Nat.le_trans (Nat.add_le_add h10 e) (by decide)
  · rw [if_neg h1, if_neg h2, if_neg h3]
    simp
theorem zerosB_len (k : Nat) : (numB (List.replicate k 0)).length = k := by
  induction k with
  | zero => rfl
  | succ k ih => rw [List.replicate_succ, numB, List.flatMap_cons, List.length_append, ← numB, ih]; simp [uintB, leb]; omega
theorem okEnt_depth {pre : List Ent} {e : Ent} (h : okEnt pre e) : 0 ≤ e.depth ∧ e.depth ≤ 32 := by
  have := h.1
  split at this <;> omega
theorem headD_drop {l : List Ent} {j : Nat} (h : j < l.length) : headD (l.drop j) = l[j].depth := by rw [List.drop_eq_getElem_cons h]; rfl
theorem addS_len (S : List (List UInt8)) (s : List UInt8) : (addS S s).length ≤ S.length + 1 := by
  unfold addS
  split <;> simp
theorem addS_flat (S : List (List UInt8)) (s : List UInt8) : (addS S s).flatten.length ≤ S.flatten.length + s.length := by
  unfold addS
  split <;> simp
theorem addS_idx (S : List (List UInt8)) (s : List UInt8) : (addS S s).idxOf s < (addS S s).length := List.idxOf_lt_length_of_mem (by unfold addS; split <;> simp [*])
theorem entB_split (e : Ent) (n next : Int) : entB e n next = numB [n] ++ (e.attrs.flatMap valB ++ numB (List.replicate (e.depth - next).toNat 0)) := by
  unfold entB
  rw [numB_one]
  congr 2
  generalize (e.depth - next).toNat = m
  induction m with
  | zero => rfl
  | succ m ih => rw [List.replicate_succ, List.replicate_succ, ih]; simp [numB, uintB, leb]
def EncPost2 (r : List UInt8 × List UInt8) (w : World) (en : Ending) (w' : World) : Prop := ∃ y z, en = .returned (.tuple #[y, z]) ∧ OwnV bv 5 w.heap.size w' y r.1 ∧ OwnV bv 5 w.heap.size w' z r.2 ∧ Ext w w'
theorem okAtt_text {a : Att} (h : okAtt a) : a.text.size ≤ 40 := by
  rcases h.2 with h4 | h4 | h4 | h4
  · rw [h4.2.2.2]; decide
  · rw [h4.2]; decide
  · exact h4.2.2
  · rw [h4.2.2]; decide
set_option maxHeartbeats 40000000 in
set_option maxRecDepth 100000 in
theorem Encode_any (l : List Ent) (v : Value) (w : World) (hv : Ents w v l) (hI : ∀ e ∈ l, e.I) (hL : l.length ≤ 9223372036854775807) : Calls Try.prog 9 #[v] w (EncPost2 (EncE l) w) := by
  obtain ⟨A, c, rfl⟩ := hv.form
  obtain ⟨n, hn⟩ : ∃ n, n = l.length := ⟨_, rfl⟩
  rw [← hn] at hv ⊢
  have HN := Lib.hid hn
  have HV := Lib.hid hv
  have HI := Lib.hid hI
  clear hn hv hI
  go_enter Try.func9, Try.ntmps9
  go_wp2_with fail
  refine (Right_any l _ w HV.out HI.out hL).mono ?_
  rintro en w1 ⟨r, rfl, hr, hx1⟩
  cases r with
  | false =>
    have HX : Hid (EncE l = ([], [])) := Lib.hid (by unfold EncE; rw [if_neg (fun h => by have := hr.2 h; cases this)])
    clear hr
    go_wp2_with fail
    refine bodyPost_ret (by simp [results, Try.results9, go_sem]; rfl) rfl ?_
    exact ⟨_, _, rfl, by rw [HX.out]; exact OwnV.nil _, by rw [HX.out]; exact OwnV.nil _, hx1⟩
  | true =>
    have HR := Lib.hid (hr.1 rfl)
    clear hr
    have hn4 : n ≤ 4000 := by have h1 := HR.out.1; have := HN.out; omega
    have hmk : (Instr.makeMap 61 none).run Try.prog w1 = .ok (.map (some w1.heap.size)) (w1.alloc (.map #[] 0)) := rfl
    go_upto_region 5 with fail
    clear hmk
    obtain ⟨b, hb⟩ : ∃ b, b = w1.heap.size := ⟨_, rfl⟩
    have hM := MapS.made w1
    have hX2 := hx1.alloc (.map #[] 0)
    have hbw : w.heap.size ≤ b := by rw [hb]; exact hx1.size
    rw [← hb] at hM ⊢
    generalize w1.alloc (.map #[] 0) = W1 at *
    have hE0 : Enc w b [] (.slice none 0 0) (.slice none 0 0) [] W1 := ⟨OwnV.nil _, OwnV.nil _, .inl rfl, hM, hX2, hbw⟩
    clear hM hb hX2 hx1
    go_wp2_with fail
    go_loopw [4, 5, 22] (fun av ev i wr => ∃ (j : Nat) (S : List (List UInt8)) (en : List UInt8), j ≤ n ∧ i = .int .i64 (j : Int) ∧ Hid (encL l ([], []) = encL (l.drop j) (S, en)) ∧ S.length ≤ j ∧ S.flatten.length ≤ 270 * j ∧ en.length ≤ 650 * j ∧ Enc w b S av ev en wr) (fun _ _ i _ => n - (intOf i).toNat)
    case atStart => exact ⟨0, [], [], by omega, rfl, Lib.hid (by rw [List.drop_zero]), by simp, by simp, by simp, hE0⟩
    case round =>
      clear hE0
      obtain ⟨j, S, en, hj, rfl, HD, hSl, hSf, hel, hE⟩ := hrel
      obtain ⟨wo, rfl⟩ : ∃ wo : World, wo = wr := ⟨_, rfl⟩
      by_cases hlt : j < n
      · have hij : (j : Int) < (n : Int) := by omega
        have hlt' : j < l.length := by rw [← HN.out]; exact hlt
        have hat := fun (i : Nat) (hi : i < l.length) => HV.out.at_ hi
        obtain ⟨bb, oo, y, hAe, hra0, hat1⟩ := hat j hlt'
        have hra : wo.rangeAt bb (oo + j * 3) (entCells (l[j], y)) := fun i u hu => hE.ext.cell (hra0 i u hu)
        clear hra0
        subst hAe
        obtain ⟨nd, hnd⟩ : ∃ d, d = headD (l.drop (j + 1)) := ⟨_, rfl⟩
        have hndr : 0 ≤ nd ∧ nd ≤ 32 := by
          rw [hnd]
          by_cases h1 : j + 1 < l.length
          · rw [headD_drop h1]
            exact okEnt_depth (HR.out.2 _ h1)
          · rw [List.drop_of_length_le (by omega)]
            simp [headD]
        have HD2 : Hid (encL l ([], []) = encL (l.drop (j + 1)) (stepE l[j] nd (S, en))) := Lib.hid (by
          rw [HD.out, List.drop_eq_getElem_cons hlt', hnd]
          rfl)
        have HNX : Hid (∀ h : j + 1 < n, ∃ p y, p.depth = nd ∧ wo.rangeAt bb (oo + (j + 1) * 3) (entCells (p, y))) := Lib.hid (fun h => by
          have h1 : j + 1 < l.length := by rw [← HN.out]; exact h
          obtain ⟨b3, o3, y3, he, hr3, _⟩ := hat (j + 1) h1
          injection he with he
          injection he with e1 e2 _
          subst e1 e2
          exact ⟨l[j + 1], y3, by rw [hnd, headD_drop h1], fun i u hu => hE.ext.cell (hr3 i u hu)⟩)
        have HN0 : Hid (¬ j + 1 < n → nd = 0) := Lib.hid (fun h => by rw [hnd, List.drop_of_length_le (by have := HN.out; omega)]; rfl)
        have hoe := HR.out.2 _ hlt'
        have hdp := okEnt_depth hoe
        have htg := hoe.2.1
        have HOA := Lib.hid hoe.2.2
        have heI := HI.out _ (List.getElem_mem hlt')
        clear hat HD hoe hnd
        generalize l[j] = e at *
        obtain ⟨A2, c2, rfl, _⟩ := id hat1
        obtain ⟨n2, hn2⟩ : ∃ n, n = e.attrs.length := ⟨_, rfl⟩
        have h12 : n2 ≤ 12 := by rw [hn2]; exact HOA.out.1
        have hld := ent_load hra
        rw [← hn2] at hld hat1
        have HN2 := Lib.hid hn2
        have HAT := Lib.hid hat1
        clear hn2 hat1
        obtain ⟨hst, hG, hXG⟩ := box_new (P := Try.prog) wo 26 #[.int .i64 0, .int .i64 0, .slice none 0 0] #[.int .i64 e.depth, .int .i64 e.tag, .slice A2 n2 c2] en_size rfl (by simp [Value.oneCell'])
        go_upto_region 8 with first | refine wpList_load_run rfl 26 (.tmp 25) rfl _ _ rfl hld ?_ | refine wpList_store_run rfl 26 (.tmp 8) (.tmp 26) rfl _ _ _ rfl rfl hst ?_
        obtain ⟨g8, hg8⟩ : ∃ g, g = wo.heap.size := ⟨_, rfl⟩
        rw [← hg8] at hG hXG ⊢
        have HNG : Hid (∀ h : j + 1 < n, ∃ p y, p.depth = nd ∧ ((wo.alloc (.cells #[.int .i64 0, .int .i64 0, .slice none 0 0] 26)).setRow g8 #[.int .i64 e.depth, .int .i64 e.tag, .slice A2 n2 c2]).rangeAt bb (oo + (j + 1) * 3) (entCells (p, y))) := Lib.hid (fun h => by
          obtain ⟨p, y, h1, h2⟩ := HNX.out h
          exact ⟨p, y, h1, fun i u hu => hXG.cell (h2 i u hu)⟩)
        generalize (wo.alloc (.cells #[.int .i64 0, .int .i64 0, .slice none 0 0] 26)).setRow g8 #[.int .i64 e.depth, .int .i64 e.tag, .slice A2 n2 c2] = wg at *
        try dsimp only [Act.put]
        replace hE := hE.aside hXG
        clear hst hld hra hXG hg8 HNX
        go_upto_if 31 with fail
        go_cut [9] (fun s wx => s = .int .i64 nd ∧ wx = wg)
        case first =>
          have wk : IntKind.i64.wrap ((j : Int) + 1) = ((j + 1 : Nat) : Int) := by rw [IntKind.wrap_i64]; omega
          by_cases h1 : j + 1 < n
          · obtain ⟨p, y, hp, hr⟩ := HNG.out h1
            have d1 : decide (((j + 1 : Nat) : Int) < (n : Int)) = true := by simp; omega
            have k0 : wg.cell? ⟨bb, oo + (j + 1) * 3, none⟩ = some (.int .i64 nd) := by rw [← hp]; simpa using hr 0 _ rfl
            clear hp hr
            go_wp2_with fail
            go_meet
            exact ⟨rfl, rfl⟩
          · have d1 : decide (((j + 1 : Nat) : Int) < (n : Int)) = false := by simp; omega
            have e0 := HN0.out h1
            subst e0
            go_wp2_with fail
            go_meet
            exact ⟨rfl, rfl⟩
        obtain ⟨rfl, hwe⟩ := hcut
        subst hwe
        obtain ⟨W, rfl⟩ : ∃ X : World, X = wc := ⟨_, rfl⟩
        have hldr := run_loadAt_blk (P := Try.prog) W g8 26 26 _ (0, 0) _ hG Try.underlying26 rfl en_size
        obtain ⟨r0, r1, r2⟩ := blk3 hG
        have HTG := Lib.hid htg
        have HATG := Lib.hid (HAT.out.ext hE.ext)
        clear htg HNG HN0
        go_wp2_with first | refine wpList_load_run rfl 26 (.tmp 8) rfl _ _ rfl hldr ?_
        refine (shapeOf_any e _ (decide (e.depth < nd)) _ HATG.out HOA.out HTG.out).mono ?_
        rintro en5 w5 ⟨y5, rfl, ho5, hx5⟩
        obtain ⟨s, hs⟩ : ∃ s, s = shapeB e (decide (e.depth < nd)) := ⟨_, rfl⟩
        have hsl : s.length ≤ 270 := by rw [hs]; exact shapeB_len _ HOA.out HTG.out
        rw [← hs] at ho5
        have HS : Hid (s = shapeB e (decide (e.depth < nd))) := Lib.hid hs
        have hE5 := hE.aside hx5
        have hG5 := hx5.heap hG
        have hi5 : InB w5 y5 s := ho5.inV
        have hstr : (convert 29 9 y5).run Try.prog w5 = .ok (.string (strV s)) w5 := strB hi5
        have hlk := hE5.map.look (s := s) (by omega)
        obtain ⟨A5, c5, hv5, _, _⟩ := id hi5
        obtain ⟨n5, hn5⟩ : ∃ m, m = s.length := ⟨_, rfl⟩
        rw [← hn5] at hv5 hsl
        have HN5 := Lib.hid hn5
        subst hv5
        obtain ⟨n1, hn1⟩ : ∃ n : Int, n = if s ∈ S then (S.idxOf s : Int) + 1 else 0 := ⟨_, rfl⟩
        obtain ⟨ok, hok⟩ : ∃ k, k = decide (s ∈ S) := ⟨_, rfl⟩
        rw [← hn1, ← hok] at hlk
        have HN1 := Lib.hid hn1
        have HOK := Lib.hid hok
        clear hs hldr r0 r1 r2 HATG hn5 hn1 hok hE hG hx5 hi5
        go_upto_region 12 with fail
        go_upto_if 52 with fail
        clear hlk
        go_cut [4, 11] (fun av2 nv wx => nv = .int .i64 (((addS S s).idxOf s : Int) + 1) ∧ Enc w b (addS S s) av2 u5 en wx ∧ wx.heap[g8]? = some (.cells #[.int .i64 e.depth, .int .i64 e.tag, .slice A2 n2 c2] 26 (0, 0)))
        case first =>
          cases ok with
          | true =>
            have hm : s ∈ S := of_decide_eq_true HOK.out.symm
            have HAS : Hid (addS S s = S) := Lib.hid (if_pos hm)
            have HM := Lib.hid hm
            clear hm
            go_wp2_with fail
            go_meet
            rw [HAS.out]
            exact ⟨by rw [HN1.out, if_pos HM.out], hE5, hG5⟩
          | false =>
            have hm : s ∉ S := of_decide_eq_false HOK.out.symm
            have HAS : Hid (addS S s = S ++ [s]) := Lib.hid (if_neg hm)
            have HIX : Hid ((S ++ [s]).idxOf s = S.length) := Lib.hid (by simp [List.idxOf_append, hm])
            have hlen := hE5.map.len
            obtain ⟨W2, hup, hM2, hg2⟩ := hE5.map.put (s := s) (by rw [← HN5.out]; omega) (by omega) hm
            obtain ⟨hab2, hsz2⟩ := hE5.put hM2 hg2
            have hi2 : InB W2 (.slice A5 n5 c5) s := (ho5.kept hg2 (.inr (hE5.map.ne_own ho5))).inV
            have hG2 := blk_grown hG5 hg2 (fun e => hE5.map.ne_blk hG5 (by injection e with e; exact e.symm))
            clear hm
            go_upto_region 15 with fail
            clear hlen
            go_wp2_with first | refine wpList_mapUpdate_run (w' := W2) rfl (.tmp 56) (.tmp 58) (.tmp 59) 61 rfl _ _ _ rfl rfl rfl hup ?_ | (at_builtin; go_must (refine wpList_appendV elem_u8 (fun _ => rfl) rfl (.tmp 60) (.tmp 61) rfl w.heap.size _ S.flatten rfl hab2 _ s rfl hi2 (by rw [← HN5.out]; omega) (by omega) hsz2 (Hold.out ?_)))
            refine Hold.mk fun v9 w9 ho9 hg9 => ?_
            have hE9 := hE5.shape hM2 hg2 ho9 hg9
            have hG9 := blk_grown hG2 hg9.grown (fun e => hab2.ne_blk hG2 (by decide) e.symm)
            clear hup hM2 hg2 hab2 hsz2 hi2 hG2 hE5 hG5 ho9 hg9 ho5
            go_wp2_with fail
            go_meet
            rw [HAS.out, HIX.out]
            exact ⟨rfl, hE9, hG9⟩
        obtain ⟨hnv, hE, hG⟩ := hcut
        clear hE5 hG5 ho5 hstr HN1 HOK
        obtain ⟨S2, hS2⟩ : ∃ S2, S2 = addS S s := ⟨_, rfl⟩
        have hix := addS_idx S s
        have hl2 := addS_len S s
        have hf2 := addS_flat S s
        rw [← hS2] at hnv hE hix hl2 hf2
        obtain ⟨nn, hnn⟩ : ∃ nn : Int, nn = (S2.idxOf s : Int) + 1 := ⟨_, rfl⟩
        have hnr : 1 ≤ nn ∧ nn ≤ 4001 := by omega
        rw [← hnn] at hnv
        subst hnv
        have hS2l : S2.length ≤ j + 1 := by omega
        have hS2f : S2.flatten.length ≤ 270 * (j + 1) := by rw [← HN5.out] at hf2; omega
        have HD3 : Hid (encL l ([], []) = encL (l.drop (j + 1)) (S2, en ++ entB e nn nd)) := Lib.hid (by
          rw [HD2.out, hnn, hS2, HS.out]
          rfl)
        clear hnn hS2 hix hl2 hf2 HS HD2
        obtain ⟨W, rfl⟩ : ∃ X : World, X = wc := ⟨_, rfl⟩
        obtain ⟨en0, hen0⟩ : ∃ x, x = en := ⟨_, rfl⟩
        have HEN0 := Lib.hid hen0
        have hAN := (Ext.refl W).alloc (.cells #[.int .i64 nn] 3)
        have hBN := heap_alloc_new W (.cells #[.int .i64 nn] 3)
        have hEN := hE.aside hAN
        go_wp2_with fail
        refine (appendNumbers_any _ en _ 1 [nn] #[.int .i64 nn] w.heap.size _ hEN.ent hBN rfl rfl (by simp only [List.mem_cons, List.not_mem_nil, or_false, forall_eq_or_imp, forall_eq]; omega) hEN.size (by omega) (by omega)).mono ?_
        rintro en w2 ⟨y2, rfl, hown2, hgr2⟩
        have hE2 := hEN.push hown2 hgr2
        have hG2 := blk_grown (hAN.heap hG) hgr2.grown (fun e => hEN.ent.ne_blk (hAN.heap hG) (by decide) e.symm)
        have hcl0 := numB_len (vs := [nn]) (by simp; omega)
        simp only [List.length_cons, List.length_nil] at hcl0
        clear hAN hBN hEN hgr2 hown2 hE hG
        obtain ⟨r0, r1, r2⟩ := blk3 hG2
        go_wp2_with fail
        clear r0 r1 r2
        go_loopw [5, 70] (fun ev2 i wr => ∃ (k : Nat) (cu : List UInt8), k ≤ n2 ∧ i = .int .i64 (k : Int) ∧ Hid (cu = en ++ (numB [nn] ++ (e.attrs.take k).flatMap valB)) ∧ cu.length ≤ 650 * j + 10 + 50 * k ∧ Enc w b S2 u4 ev2 cu wr ∧ wr.heap[g8]? = some (.cells #[.int .i64 e.depth, .int .i64 e.tag, .slice A2 n2 c2] 26 (0, 0))) (fun _ i _ => n2 - (intOf i).toNat)
        case atStart => exact ⟨0, _, by omega, rfl, Lib.hid (by simp), by rw [List.length_append]; omega, hE2, hG2⟩
        case round =>
          clear hE2 hG2 hcl0
          obtain ⟨k, cu, hk, rfl, HC, hcl, hE, hG⟩ := hrel
          obtain ⟨wz, rfl⟩ : ∃ W : World, W = wr := ⟨_, rfl⟩
          by_cases hlk : k < n2
          · have hik : (k : Int) < (n2 : Int) := by omega
            have hlt2 : k < e.attrs.length := by rw [← HN2.out]; exact hlk
            obtain ⟨b3, o3, hAe, hra⟩ := (HAT.out.ext hE.ext).at_ (k := 4) (fun z hz => rfl) (by omega) hlt2
            subst hAe
            have HTK := Lib.hid (List.take_succ_eq_append_getElem hlt2)
            have hoa := HOA.out.2.1 _ (List.getElem_mem hlt2)
            have haI := heI.attrs _ (List.getElem_mem hlt2)
            generalize e.attrs[k] = a at *
            have hfm : 1 ≤ a.form ∧ a.form ≤ 4 := by unfold okAtt at hoa; omega
            have hvl := valB_len hoa haI
            have hvr := haI.value
            unfold I64 at hvr
            have htx := okAtt_text hoa
            have HNX : Hid (cu ++ valB a = en ++ (numB [nn] ++ (e.attrs.take (k + 1)).flatMap valB)) := Lib.hid (by
              rw [HC.out, HTK.out, List.flatMap_append]
              simp)
            have hln : (cu ++ valB a).length ≤ 650 * j + 10 + 50 * (k + 1) := by rw [List.length_append]; omega
            obtain ⟨cun, hcun⟩ : ∃ c, c = cu ++ valB a := ⟨_, rfl⟩
            rw [← hcun] at hln HNX
            have HCUN := Lib.hid hcun
            clear hoa haI hcun HC HTK
            have hld := att_load hra
            obtain ⟨hst, hGa, hXG⟩ := box_new (P := Try.prog) wz 40 #[.int .i64 0, .int .i64 0, .int .i64 0, .string ByteArray.empty] #[.int .i64 a.name, .int .i64 a.form, .int .i64 a.value, .string a.text] at_size rfl (by simp [Value.oneCell'])
            go_upto_region 21 with first | refine wpList_load_run rfl 40 (.tmp 72) rfl _ _ rfl hld ?_ | refine wpList_store_run rfl 40 (.tmp 14) (.tmp 73) rfl _ _ _ rfl rfl hst ?_
            obtain ⟨ga, hga⟩ : ∃ g, g = wz.heap.size := ⟨_, rfl⟩
            rw [← hga] at hGa hXG ⊢
            generalize (wz.alloc (.cells #[.int .i64 0, .int .i64 0, .int .i64 0, .string ByteArray.empty] 40)).setRow ga #[.int .i64 a.name, .int .i64 a.form, .int .i64 a.value, .string a.text] = wh at *
            try dsimp only [Act.put]
            replace hE := hE.aside hXG
            replace hG := hXG.heap hG
            obtain ⟨r0, r1, r2, r3⟩ := blkR hGa
            clear hst hld hra hXG hga hGa
            by_cases g1 : a.form = 1
            case pos =>
              have HVB : Hid (valB a = numB [a.value]) := Lib.hid (by unfold valB; rw [if_pos g1, numB_one])
              have f1 : decide (a.form = 1) = true := by simp; omega
              have f2 : decide (a.form = 2) = false := by simp; omega
              have f3 : decide (a.form = 3) = false := by simp; omega
              have f1b : (a.form == 1) = true := by simp; omega
              have f2b : (a.form == 2) = false := by simp; omega
              have f3b : (a.form == 3) = false := by simp; omega
              clear g1
              have hAN := (Ext.refl wh).alloc (.cells #[.int .i64 a.value] 3)
              have hBN := heap_alloc_new wh (.cells #[.int .i64 a.value] 3)
              have hEN := hE.aside hAN
              go_wp2_with fail
              refine (appendNumbers_any _ cu _ 1 [a.value] #[.int .i64 a.value] w.heap.size _ hEN.ent hBN rfl rfl (by simp only [List.mem_cons, List.not_mem_nil, or_false, forall_eq_or_imp, forall_eq]; omega) hEN.size (by omega) (by omega)).mono ?_
              rintro en w2 ⟨y2, rfl, hown2, hgr2⟩
              have hE2 := hEN.push hown2 hgr2
              have hG2 := blk_grown (hAN.heap hG) hgr2.grown (fun e => hEN.ent.ne_blk (hAN.heap hG) (by decide) e.symm)
              rw [← HVB.out, ← HCUN.out] at hE2
              clear hAN hBN hEN hgr2 hown2 hE hG r0 r1 r2 r3
              go_wp2_with fail
              go_roundw
              case rel => exact ⟨k + 1, cun, by omega, by first | (with_reducible rfl) | go_num, HNX, hln, hE2, hG2⟩
              case measure => simp [intOf]; omega
            by_cases g2 : a.form = 2
            case pos =>
              have HVB : Hid (valB a = leb (zig a.value)) := Lib.hid (by unfold valB; rw [if_neg g1, if_pos g2])
              have f1 : decide (a.form = 1) = false := by simp; omega
              have f2 : decide (a.form = 2) = true := by simp; omega
              have f3 : decide (a.form = 3) = false := by simp; omega
              have f1b : (a.form == 1) = false := by simp; omega
              have f2b : (a.form == 2) = true := by simp; omega
              have f3b : (a.form == 3) = false := by simp; omega
              clear g1 g2
              go_wp2_with fail
              refine (AppendInt_any _ [] a.value _ (InV.nil _) (by simp) hvr.1 hvr.2).mono ?_
              rintro en4 w4 ⟨y4, rfl, ho4, he4⟩
              have hi4 : InB w4 y4 (valB a) := by rw [HVB.out]; exact ho4.toV.inV
              have hE4 := hE.aside he4
              have hG4 := he4.heap hG
              obtain ⟨A4, c4, hv4, _, _⟩ := id hi4
              obtain ⟨n4, hn4⟩ : ∃ m, m = (valB a).length := ⟨_, rfl⟩
              rw [← hn4] at hv4
              have HN4 := Lib.hid hn4
              subst hv4
              clear ho4 he4 hE hG r0 r1 r2 r3 hn4
              go_wp2_with (at_builtin; go_must (refine wpList_appendV elem_u8 (fun _ => rfl) rfl (.tmp 85) (.tmp 88) rfl w.heap.size _ cu rfl hE4.ent _ (valB a) rfl hi4 (by omega) (by omega) hE4.size (Hold.out ?_)))
              refine Hold.mk fun v9 w9 ho9 hg9 => ?_
              have hE2 := hE4.push ho9 hg9
              have hG2 := blk_grown hG4 hg9.grown (fun e => hE4.ent.ne_blk hG4 (by decide) e.symm)
              rw [← HCUN.out] at hE2
              clear ho9 hg9 hE4 hG4 hi4
              go_wp2_with fail
              go_roundw
              case rel => exact ⟨k + 1, cun, by omega, by first | (with_reducible rfl) | go_num, HNX, hln, hE2, hG2⟩
              case measure => simp [intOf]; omega
            by_cases g3 : a.form = 3
            case pos =>
              have HVB : Hid (valB a = leb a.text.size ++ a.text.data.toList) := Lib.hid (by unfold valB; rw [if_neg g1, if_neg g2, if_pos g3])
              have f1 : decide (a.form = 1) = false := by simp; omega
              have f2 : decide (a.form = 2) = false := by simp; omega
              have f3 : decide (a.form = 3) = true := by simp; omega
              have f1b : (a.form == 1) = false := by simp; omega
              have f2b : (a.form == 2) = false := by simp; omega
              have f3b : (a.form == 3) = true := by simp; omega
              clear g1 g2 g3
              go_wp2_with fail
              refine (AppendText_any _ [] a.text _ (InV.nil _) (by simp) (by omega)).mono ?_
              rintro en4 w4 ⟨y4, rfl, ho4, he4⟩
              have hi4 : InB w4 y4 (valB a) := by rw [HVB.out]; exact ho4.toV.inV
              have hE4 := hE.aside he4
              have hG4 := he4.heap hG
              obtain ⟨A4, c4, hv4, _, _⟩ := id hi4
              obtain ⟨n4, hn4⟩ : ∃ m, m = (valB a).length := ⟨_, rfl⟩
              rw [← hn4] at hv4
              have HN4 := Lib.hid hn4
              subst hv4
              clear ho4 he4 hE hG r0 r1 r2 r3 hn4
              go_wp2_with (at_builtin; go_must (refine wpList_appendV elem_u8 (fun _ => rfl) rfl (.tmp 92) (.tmp 95) rfl w.heap.size _ cu rfl hE4.ent _ (valB a) rfl hi4 (by omega) (by omega) hE4.size (Hold.out ?_)))
              refine Hold.mk fun v9 w9 ho9 hg9 => ?_
              have hE2 := hE4.push ho9 hg9
              have hG2 := blk_grown hG4 hg9.grown (fun e => hE4.ent.ne_blk hG4 (by decide) e.symm)
              rw [← HCUN.out] at hE2
              clear ho9 hg9 hE4 hG4 hi4
              go_wp2_with fail
              go_roundw
              case rel => exact ⟨k + 1, cun, by omega, by first | (with_reducible rfl) | go_num, HNX, hln, hE2, hG2⟩
              case measure => simp [intOf]; omega
            have HVB : Hid (valB a = []) := Lib.hid (by unfold valB; rw [if_neg g1, if_neg g2, if_neg g3])
            have f1 : decide (a.form = 1) = false := by simp; omega
            have f2 : decide (a.form = 2) = false := by simp; omega
            have f3 : decide (a.form = 3) = false := by simp; omega
            have f1b : (a.form == 1) = false := by simp; omega
            have f2b : (a.form == 2) = false := by simp; omega
            have f3b : (a.form == 3) = false := by simp; omega
            have hE2 := hE
            have hG2 := hG
            have ec : cun = cu := by rw [HCUN.out, HVB.out, List.append_nil]
            rw [← ec] at hE2
            clear g1 g2 g3 hE hG ec r0 r2 r3
            go_wp2_with fail
            go_roundw
            case rel => exact ⟨k + 1, cun, by omega, by first | (with_reducible rfl) | go_num, HNX, hln, hE2, hG2⟩
            case measure => simp [intOf]; omega
          · have hik : ¬ (k : Int) < (n2 : Int) := by omega
            have HC2 : Hid (cu = en ++ (numB [nn] ++ e.attrs.flatMap valB)) := Lib.hid (by
              have h1 := HC.out
              rw [List.take_of_length_le (by have := HN2.out; omega)] at h1
              exact h1)
            have hcl2 : cu.length ≤ 650 * j + 610 := by omega
            obtain ⟨wy, rfl⟩ : ∃ W : World, W = wz := ⟨_, rfl⟩
            clear HC hcl
            go_wp2_with fail
            go_loopw [5, 15] (fun ev3 d wr => ∃ (m : Nat) (c3 : List UInt8), m ≤ (e.depth - nd).toNat ∧ d = .int .i64 (nd + (m : Int)) ∧ Hid (c3 = cu ++ numB (List.replicate m 0)) ∧ c3.length ≤ cu.length + m ∧ Enc w b S2 u4 ev3 c3 wr ∧ wr.heap[g8]? = some (.cells #[.int .i64 e.depth, .int .i64 e.tag, .slice A2 n2 c2] 26 (0, 0))) (fun _ d _ => (e.depth - intOf d).toNat)
            case atStart => exact ⟨0, cu, by omega, by simp, Lib.hid (by simp [numB]), by omega, hE, hG⟩
            case round =>
              clear hE hG
              obtain ⟨m, c3, hm, rfl, HC3, hcl3, hE, hG⟩ := hrel
              obtain ⟨wx, rfl⟩ : ∃ W : World, W = wr := ⟨_, rfl⟩
              obtain ⟨r0, r1, r2⟩ := blk3 hG
              by_cases hmd : nd + (m : Int) < e.depth
              · have HCN : Hid (c3 ++ numB [0] = cu ++ numB (List.replicate (m + 1) 0)) := Lib.hid (by
                  rw [HC3.out, List.append_assoc, ← numB_app, List.replicate_succ'])
                have hln : (c3 ++ numB [0]).length ≤ cu.length + (m + 1) := by
                  have : (numB [0]).length = 1 := zerosB_len 1
                  rw [List.length_append, this]
                  omega
                obtain ⟨cun, hcun⟩ : ∃ c, c = c3 ++ numB [0] := ⟨_, rfl⟩
                rw [← hcun] at hln HCN
                have hAN := (Ext.refl wx).alloc (.cells #[.int .i64 0] 3)
                have hBN := heap_alloc_new wx (.cells #[.int .i64 0] 3)
                have hEN := hE.aside hAN
                go_wp2_with fail
                refine (appendNumbers_any _ c3 _ 1 [0] #[.int .i64 0] w.heap.size _ hEN.ent hBN rfl rfl (by simp only [List.mem_cons, List.not_mem_nil, or_false, forall_eq_or_imp, forall_eq]; omega) hEN.size (by omega) (by omega)).mono ?_
                rintro en w2 ⟨y2, rfl, hown2, hgr2⟩
                have hE2 := hEN.push hown2 hgr2
                have hG2 := blk_grown (hAN.heap hG) hgr2.grown (fun e => hEN.ent.ne_blk (hAN.heap hG) (by decide) e.symm)
                rw [← hcun] at hE2
                clear hAN hBN hEN hgr2 hown2 hE hG r0 r1 r2 hcun
                go_wp2_with fail
                go_roundw
                case rel => exact ⟨m + 1, cun, by omega, by first | (with_reducible rfl) | go_num, HCN, hln, hE2, hG2⟩
                case measure => simp [intOf]; omega
              · have hm0 : m = (e.depth - nd).toNat := by omega
                have HCE : Hid (c3 = en ++ entB e nn nd) := Lib.hid (by
                  rw [HC3.out, HC2.out, entB_split, hm0]
                  simp)
                have hlc : c3.length ≤ 650 * (j + 1) := by omega
                have HD4 : Hid (encL l ([], []) = encL (l.drop (j + 1)) (S2, c3)) := Lib.hid (by rw [HCE.out]; exact HD3.out)
                clear hm0 HC3 hcl3 HCE
                go_wp2_with fail
                go_roundw
                case rel => exact ⟨j + 1, S2, c3, by omega, by first | (with_reducible rfl) | go_num, HD4, hS2l, hS2f, hlc, hE⟩
                case measure => simp [intOf]; omega
      · have hij : ¬ (j : Int) < (n : Int) := by omega
        have HF : Hid (encL l ([], []) = (S, en)) := Lib.hid (by rw [HD.out, List.drop_of_length_le (by have := HN.out; omega)]; rfl)
        have HQ1 : Hid ((200 < S.length ∨ 60000 < S.flatten.length ∨ 60000 < en.length) → EncE l = ([], [])) := Lib.hid (fun h => by
          unfold EncE
          rw [if_pos HR.out, HF.out]
          exact if_pos h)
        have HQ2 : Hid (¬ (200 < S.length ∨ 60000 < S.flatten.length ∨ 60000 < en.length) → EncE l = (S.flatten, en)) := Lib.hid (fun h => by
          unfold EncE
          rw [if_pos HR.out, HF.out]
          exact if_neg h)
        have hlen := hE.map.len
        have hab := hE.ab
        have hent := hE.ent
        have hx := hE.ext
        obtain ⟨A7, c7, hv7, _, _⟩ := id hab.inV
        obtain ⟨A8, c8, hv8, _, _⟩ := id hent.inV
        obtain ⟨n7, hn7⟩ : ∃ m, m = S.flatten.length := ⟨_, rfl⟩
        obtain ⟨n8, hn8⟩ : ∃ m, m = en.length := ⟨_, rfl⟩
        obtain ⟨n6, hn6⟩ : ∃ m, m = S.length := ⟨_, rfl⟩
        rw [← hn7] at hv7 HQ1 HQ2 hSf
        rw [← hn8] at hv8 HQ1 HQ2 hel
        rw [← hn6] at hlen HQ1 HQ2 hSl
        clear hn7 hn8 hn6
        subst hv7 hv8
        clear HD HF hE
        by_cases e1 : 200 < n6 ∨ 60000 < n7 ∨ 60000 < n8
        · have HP := Lib.hid (HQ1.out e1)
          by_cases g1 : 200 < n6
          · have d1 : decide ((200 : Int) < (n6 : Int)) = true := by simp; omega
            clear g1 e1
            go_wp2_with fail
            refine bodyPost_ret (by simp [results, Try.results9, go_sem]; rfl) rfl ?_
            exact ⟨_, _, rfl, by rw [HP.out]; exact OwnV.nil _, by rw [HP.out]; exact OwnV.nil _, hx⟩
          by_cases g2 : 60000 < n7
          · have d1 : decide ((200 : Int) < (n6 : Int)) = false := by simp; omega
            have d2 : decide ((60000 : Int) < (n7 : Int)) = true := by simp; omega
            clear g1 g2 e1
            go_wp2_with fail
            refine bodyPost_ret (by simp [results, Try.results9, go_sem]; rfl) rfl ?_
            exact ⟨_, _, rfl, by rw [HP.out]; exact OwnV.nil _, by rw [HP.out]; exact OwnV.nil _, hx⟩
          have d1 : decide ((200 : Int) < (n6 : Int)) = false := by simp; omega
          have d2 : decide ((60000 : Int) < (n7 : Int)) = false := by simp; omega
          have d3 : decide ((60000 : Int) < (n8 : Int)) = true := by simp; omega
          clear g1 g2 e1
          go_wp2_with fail
          refine bodyPost_ret (by simp [results, Try.results9, go_sem]; rfl) rfl ?_
          exact ⟨_, _, rfl, by rw [HP.out]; exact OwnV.nil _, by rw [HP.out]; exact OwnV.nil _, hx⟩
        · have HP := Lib.hid (HQ2.out e1)
          have d1 : decide ((200 : Int) < (n6 : Int)) = false := by simp; omega
          have d2 : decide ((60000 : Int) < (n7 : Int)) = false := by simp; omega
          have d3 : decide ((60000 : Int) < (n8 : Int)) = false := by simp; omega
          clear e1
          go_wp2_with fail
          refine bodyPost_ret (by simp [results, Try.results9, go_sem]; rfl) rfl ?_
          exact ⟨_, _, rfl, by rw [HP.out]; exact hab, by rw [HP.out]; exact hent, hx⟩
end Go.Proofs.Ytopanbcodfkedaa
