/- The bytes of shapes and values; the walks of appendNumbers and shapeOf; a map from texts to numbers. -/
import Derived.Test.YtopanbcodfkedaaInfC
namespace Go.Proofs.Ytopanbcodfkedaa
open Go.RowKit
set_option linter.unusedVariables false
set_option linter.unusedSimpArgs false

theorem elem_u8 : Elem1 Try.prog 29 5 1 := by
  rcases hi : Try.prog.info? 5 with _ | i
  · have := u8_info; rw [hi] at this; cases this
  · have := u8_info
    rw [hi] at this
    simp only [Option.map_some, Option.some.injEq, Prod.mk.injEq] at this
    exact ⟨Try.underlying29, i, _, hi, this.1, this.2.1, this.2.2, rfl⟩
theorem OwnB.toV {base : Nat} {w : World} {v : Value} {l : List UInt8} (h : OwnB base w v l) : OwnV bv 5 base w v l := h
def numB (vs : List Int) : List UInt8 := vs.flatMap uintB
theorem numB_app (a b : List Int) : numB (a ++ b) = numB a ++ numB b := List.flatMap_append
theorem numB_one (a : Int) : numB [a] = uintB a := by simp [numB]
theorem numB_len : ∀ {vs : List Int}, (∀ v ∈ vs, v ≤ 9223372036854775807) → (numB vs).length ≤ 10 * vs.length
  | [], _ => by simp [numB]
  | v :: l, h => by
    have h1 := uintB_len (h v (by simp))
    have h2 := numB_len (vs := l) (fun x hx => h x (by simp [hx]))
    simp only [numB, List.flatMap_cons, List.length_append, List.length_cons] at *
    omega
/-- what a shape says -/
def attsN (l : List Att) : List Int := l.flatMap (fun a => [a.name, a.form])
theorem attsN_snoc (l : List Att) (a : Att) : attsN (l ++ [a]) = attsN l ++ [a.name, a.form] := by simp [attsN, List.flatMap_append]
def shapeN (e : Ent) (k : Bool) : List Int := [e.tag, if k then 1 else 0, (e.attrs.length : Int)] ++ attsN e.attrs
def shapeB (e : Ent) (k : Bool) : List UInt8 := numB (shapeN e k)
def valB (a : Att) : List UInt8 := if a.form = 1 then uintB a.value else if a.form = 2 then leb (zig a.value) else if a.form = 3 then leb a.text.size ++ a.text.data.toList else []
def headD : List Ent → Int
  | [] => 0
  | e :: _ => e.depth
def addS (S : List (List UInt8)) (s : List UInt8) : List (List UInt8) := if s ∈ S then S else S ++ [s]
/-- an entry's bytes, its shape's number given -/
def entB (e : Ent) (n : Int) (next : Int) : List UInt8 := uintB n ++ (e.attrs.flatMap valB ++ List.replicate (e.depth - next).toNat 0)
def stepE (e : Ent) (next : Int) (st : List (List UInt8) × List UInt8) : List (List UInt8) × List UInt8 :=
  let s := shapeB e (decide (e.depth < next))
  (addS st.1 s, st.2 ++ entB e ((addS st.1 s).idxOf s + 1) next)
def encL : List Ent → List (List UInt8) × List UInt8 → List (List UInt8) × List UInt8
  | [], st => st
  | e :: r, st => encL r (stepE e (headD r) st)
open Classical in
noncomputable def EncE (l : List Ent) : List UInt8 × List UInt8 := if RightE l then (if 200 < (encL l ([], [])).1.length ∨ 60000 < (encL l ([], [])).1.flatten.length ∨ 60000 < (encL l ([], [])).2.length then ([], []) else ((encL l ([], [])).1.flatten, (encL l ([], [])).2)) else ([], [])
set_option maxHeartbeats 4000000 in
set_option maxRecDepth 100000 in
theorem appendNumbers_any (x : Value) (l : List UInt8) (gy n : Nat) (vs : List Int) (cs : Array Value) (base : Nat) (w : World) (hx : OwnV bv 5 base w x l) (hy : w.heap[gy]? = some (.cells cs 3 (0, 0))) (hcs : cs.toList = vs.map iv) (hn : n = vs.length)
    (hvs : ∀ v ∈ vs, v ≤ 9223372036854775807) (hb : base ≤ w.heap.size) (hl : l.length ≤ 900000000) (hn4 : n ≤ 4) :
    Calls Try.prog 23 #[x, .slice (some ⟨gy, 0, none⟩) n n] w fun en w' => ∃ y, en = .returned y ∧ OwnV bv 5 base w' y (l ++ numB vs) ∧ Grew w w' x y := by
  have HN := Lib.hid hn
  have HC := Lib.hid hcs
  have HV := Lib.hid hvs
  clear hn hcs hvs
  go_enter Try.func23, Try.ntmps23
  go_wp2_with fail
  go_loopw [0, 9] (fun v i wr => ∃ (k : Nat), k ≤ n ∧ i = .int .i64 (k : Int) ∧ OwnV bv 5 base wr v (l ++ numB (vs.take k)) ∧ Grew w wr x v ∧ wr.heap[gy]? = some (.cells cs 3 (0, 0)) ∧ base ≤ wr.heap.size) (fun _ i _ => n - (intOf i).toNat)
  case atStart => exact ⟨0, by omega, rfl, by simpa [numB] using hx, Grew.refl _ _, hy, hb⟩
  case round =>
    obtain ⟨k, hk, rfl, hown, hgr, hyw, hbw⟩ := hrel
    obtain ⟨wo, rfl⟩ : ∃ W : World, W = wr := ⟨_, rfl⟩
    by_cases hlt : k < n
    · have hik : (k : Int) < (n : Int) := by omega
      have hkv : k < vs.length := by rw [← HN.out]; exact hlt
      have hcell : wo.cell? ⟨gy, k, none⟩ = some (.int .i64 vs[k]) := blk_at hyw k _ (by
        rw [← Array.getElem?_toList, HC.out, List.getElem?_map, List.getElem?_eq_getElem hkv]; rfl)
      have HTK := Lib.hid (List.take_succ_eq_append_getElem hkv)
      have hvk := HV.out _ (List.getElem_mem hkv)
      have hlen : (l ++ numB (vs.take k)).length ≤ 900000100 := by
        have h1 := numB_len (vs := vs.take k) (fun v hv => HV.out v (List.mem_of_mem_take hv))
        rw [List.length_take] at h1
        rw [List.length_append]
        omega
      generalize vs[k] = v at *
      go_wp2_with fail
      refine (AppendUint_any _ [] v wo (InV.nil wo) (by simp) hvk).mono ?_
      rintro en w5 ⟨y5, rfl, ho5, he5⟩
      have hi5 : InB w5 y5 (uintB v) := by simpa using ho5.toV.inV
      have hown5 := hown.ext he5
      have hyw5 := he5.heap hyw
      have hgr5 := hgr.trans (Ext.grew he5 _)
      have hbw5 := Nat.le_trans hbw he5.size
      have hul := uintB_len hvk
      obtain ⟨A5, c5, hv5, _, _⟩ := id hi5
      obtain ⟨n5, hn5⟩ : ∃ m, m = (uintB v).length := ⟨_, rfl⟩
      rw [← hn5] at hv5 hul
      have HN5 := Lib.hid hn5
      subst hv5
      clear ho5 he5 hown hyw hgr hcell hbw hn5
      obtain ⟨cu, hcu⟩ : ∃ c, c = l ++ numB (vs.take k) := ⟨_, rfl⟩
      rw [← hcu] at hown5 hlen
      have HCU := Lib.hid hcu
      clear hcu
      go_wp2_with (at_builtin; go_must (refine wpList_appendV elem_u8 (fun _ => rfl) rfl (.tmp 13) (.tmp 15) rfl base _ cu rfl hown5 _ (uintB v) rfl hi5 (by have := HN5.out; omega) (by omega) hbw5 (Hold.out ?_)))
      refine Hold.mk fun v9 w9 ho9 hg9 => ?_
      have hy9 := blk_grown hyw5 hg9.grown (fun e => hown5.ne_blk hyw5 (by decide) e.symm)
      have hgr9 := hgr5.trans hg9
      have hb9 := Nat.le_trans hbw5 hg9.grown.size
      have HO : OwnV bv 5 base w9 v9 (l ++ numB (vs.take (k + 1))) := by
        rw [HTK.out, numB_app, ← List.append_assoc, ← HCU.out]
        have : numB [v] = uintB v := by simp [numB]
        rw [this]
        exact ho9
      clear ho9 hg9 hgr5 hyw5 hown5 hbw5 hi5
      go_wp2_with fail
      go_roundw
      case rel => exact ⟨k + 1, by omega, by first | (with_reducible rfl) | go_num, HO, hgr9, hy9, hb9⟩
      case measure => simp [intOf]; omega
    · have hik : ¬ (k : Int) < (n : Int) := by omega
      have HO : OwnV bv 5 base wo u0 (l ++ numB vs) := by
        have h := hown
        rw [List.take_of_length_le (by have := HN.out; omega)] at h
        exact h
      clear hown
      go_wp2_with fail
      go_ret
      exact ⟨_, rfl, HO, hgr⟩
set_option maxHeartbeats 40000000 in
set_option maxRecDepth 100000 in
theorem shapeOf_any (e : Ent) (y : Value) (k : Bool) (w : World) (hy : InR attCells w y e.attrs) (hok : okAtts e.attrs) (htag : 1 ≤ e.tag ∧ e.tag ≤ 63) :
    Calls Try.prog 22 #[.agg #[.int .i64 e.depth, .int .i64 e.tag, y], .bool k] w fun en w' => ∃ y, en = .returned y ∧ OwnV bv 5 w.heap.size w' y (shapeB e k) ∧ Ext w w' := by
  obtain ⟨A2, c2, rfl, _⟩ := id hy
  obtain ⟨n2, hn2⟩ : ∃ n, n = e.attrs.length := ⟨_, rfl⟩
  have h12 := hok.1
  rw [← hn2] at hy h12 ⊢
  have HN2 := Lib.hid hn2
  have HY := Lib.hid hy
  have HO := Lib.hid hok.2.1
  clear hn2 hy hok
  go_enter Try.func22, Try.ntmps22
  go_upto_region 1 with fail
  obtain ⟨W, hW, hE, hB⟩ : ∃ W, W = w.alloc (.cells #[.int .i64 e.depth, .int .i64 e.tag, .slice A2 n2 c2] 26) ∧ Ext w W ∧ W.heap[w.heap.size]? = some (.cells #[.int .i64 e.depth, .int .i64 e.tag, .slice A2 n2 c2] 26 (0, 0)) := ⟨_, rfl, (Ext.refl w).alloc _, heap_alloc_new w _⟩
  rw [← hW]
  obtain ⟨g1, hg1⟩ : ∃ g, g = w.heap.size := ⟨_, rfl⟩
  rw [← hg1] at hB ⊢
  clear hW hg1
  obtain ⟨r0, r1, r2⟩ := blk3 hB
  obtain ⟨kv, hkv⟩ : ∃ kv : Int, kv = if k then 1 else 0 := ⟨_, rfl⟩
  have hkr : 0 ≤ kv ∧ kv ≤ 1 := by rw [hkv]; cases k <;> simp
  have HKV := Lib.hid hkv
  go_upto_region 2 with fail
  go_upto_if 9 with fail
  go_cut [5] (fun s wx => s = .int .i64 kv ∧ wx = W)
  case first =>
    cases k with
    | true =>
      simp only [if_true] at hkv
      subst hkv
      go_wp2_with fail
      go_meet
      exact ⟨rfl, rfl⟩
    | false =>
      simp only [Bool.false_eq_true, if_false] at hkv
      subst hkv
      go_wp2_with fail
      go_meet
      exact ⟨rfl, rfl⟩
  obtain ⟨rfl, hwe⟩ := hcut
  subst hwe
  obtain ⟨W, rfl⟩ : ∃ X : World, X = wc := ⟨_, rfl⟩
  clear hkv
  have hown : OwnV bv 5 w.heap.size W (.slice none 0 0) [] := OwnV.nil _
  have hz0 : ([] : List UInt8).length = 0 := rfl
  have hAN := (Ext.refl W).alloc (.cells #[.int .i64 e.tag, .int .i64 kv, .int .i64 (n2 : Int)] 3)
  have hBN := heap_alloc_new W (.cells #[.int .i64 e.tag, .int .i64 kv, .int .i64 (n2 : Int)] 3)
  have hoN := hown.ext hAN
  have hsN := Nat.le_trans hE.size hAN.size
  go_wp2_with fail
  refine (appendNumbers_any _ [] _ 3 [e.tag, kv, (n2 : Int)] #[.int .i64 e.tag, .int .i64 kv, .int .i64 (n2 : Int)] w.heap.size _ hoN hBN rfl rfl (by simp only [List.mem_cons, List.not_mem_nil, or_false, forall_eq_or_imp, forall_eq]; omega) hsN (by omega) (by omega)).mono ?_
  rintro en w2 ⟨y2, rfl, hown2, hgr2⟩
  have hX2 := hgr2.ext (hE.trans hAN) hoN.ge
  have hB2 := blk_grown (hAN.heap hB) hgr2.grown (fun e => hoN.ne_blk (hAN.heap hB) (by decide) e.symm)
  have hown3 : OwnV bv 5 w.heap.size w2 y2 (numB [e.tag, kv, (n2 : Int)]) := by simpa using hown2
  have hcl0 := numB_len (vs := [e.tag, kv, (n2 : Int)]) (by simp; omega)
  simp only [List.length_cons, List.length_nil] at hcl0
  clear hAN hBN hoN hsN hgr2 hown hown2 hE hB r0 r1 r2 hz0
  obtain ⟨r0, r1, r2⟩ := blk3 hB2
  go_wp2_with fail
  clear r0 r1 r2
  go_loopw [6, 21] (fun v i wr => ∃ (j : Nat) (cu : List UInt8), j ≤ n2 ∧ i = .int .i64 (j : Int) ∧ Hid (cu = numB ([e.tag, kv, (n2 : Int)] ++ attsN (e.attrs.take j))) ∧ cu.length ≤ 30 + 20 * j ∧ OwnV bv 5 w.heap.size wr v cu ∧ Ext w wr) (fun _ i _ => n2 - (intOf i).toNat)
  case atStart => exact ⟨0, _, by omega, rfl, Lib.hid (by simp [attsN]), by omega, hown3, hX2⟩
  case round =>
    clear hown3 hX2 hcl0 hB2
    obtain ⟨j, cu, hj, rfl, HC, hcl, hown, hX⟩ := hrel
    obtain ⟨wo, rfl⟩ : ∃ wo : World, wo = wr := ⟨_, rfl⟩
    by_cases hlt : j < n2
    · have hij : (j : Int) < (n2 : Int) := by omega
      have hlt' : j < e.attrs.length := by rw [← HN2.out]; exact hlt
      obtain ⟨bb, oo, hAe, hra⟩ := (HY.out.ext hX).at_ (k := 4) (fun z hz => rfl) (by omega) hlt'
      subst hAe
      have HTK := Lib.hid (List.take_succ_eq_append_getElem hlt')
      have hoa := HO.out _ (List.getElem_mem hlt')
      generalize e.attrs[j] = a at *
      have hfm : 1 ≤ a.form ∧ a.form ≤ 4 := by unfold okAtt at hoa; omega
      have hnm := hoa.1
      clear hoa
      have hld := att_load hra
      obtain ⟨hst, hG, hXG⟩ := box_new (P := Try.prog) wo 40 #[.int .i64 0, .int .i64 0, .int .i64 0, .string ByteArray.empty] #[.int .i64 a.name, .int .i64 a.form, .int .i64 a.value, .string a.text] at_size rfl (by simp [Value.oneCell'])
      go_upto_region 8 with first | refine wpList_load_run rfl 40 (.tmp 23) rfl _ _ rfl hld ?_ | refine wpList_store_run rfl 40 (.tmp 8) (.tmp 24) rfl _ _ _ rfl rfl hst ?_
      obtain ⟨g5, hg5⟩ : ∃ g, g = wo.heap.size := ⟨_, rfl⟩
      rw [← hg5] at hG hXG ⊢
      generalize (wo.alloc (.cells #[.int .i64 0, .int .i64 0, .int .i64 0, .string ByteArray.empty] 40)).setRow g5 #[.int .i64 a.name, .int .i64 a.form, .int .i64 a.value, .string a.text] = wg at *
      try dsimp only [Act.put]
      obtain ⟨r0, r1, r2, r3⟩ := blkR hG
      have hXX := hX.trans hXG
      replace hown := hown.ext hXG
      clear hst hld hra hXG hX hg5 hG
      have hAN := (Ext.refl wg).alloc (.cells #[.int .i64 a.name, .int .i64 a.form] 3)
      have hBN := heap_alloc_new wg (.cells #[.int .i64 a.name, .int .i64 a.form] 3)
      have hoN := hown.ext hAN
      have hsN := Nat.le_trans hXX.size hAN.size
      go_wp2_with fail
      refine (appendNumbers_any _ cu _ 2 [a.name, a.form] #[.int .i64 a.name, .int .i64 a.form] w.heap.size _ hoN hBN rfl rfl (by simp only [List.mem_cons, List.not_mem_nil, or_false, forall_eq_or_imp, forall_eq]; omega) hsN (by omega) (by omega)).mono ?_
      rintro en w2 ⟨y2, rfl, hown2, hgr2⟩
      have hX2 := hgr2.ext (hXX.trans hAN) hoN.ge
      have hl2 := numB_len (vs := [a.name, a.form]) (by simp only [List.mem_cons, List.not_mem_nil, or_false, forall_eq_or_imp, forall_eq]; omega)
      simp only [List.length_cons, List.length_nil] at hl2
      obtain ⟨cun, hcn⟩ : ∃ c, c = cu ++ numB [a.name, a.form] := ⟨_, rfl⟩
      have hcln : cun.length ≤ 30 + 20 * (j + 1) := by rw [hcn, List.length_append]; omega
      rw [← hcn] at hown2
      have HCN : Hid (cun = numB ([e.tag, kv, (n2 : Int)] ++ attsN (e.attrs.take (j + 1)))) := Lib.hid (by
        rw [hcn, HC.out, HTK.out, attsN_snoc, ← numB_app, List.append_assoc])
      clear hAN hBN hoN hsN hgr2 hown hXX r0 r1 r2 r3 hl2 hcn
      go_wp2_with fail
      go_roundw
      case rel => exact ⟨j + 1, cun, by omega, by first | (with_reducible rfl) | go_num, HCN, hcln, hown2, hX2⟩
      case measure => simp [intOf]; omega
    · have hij : ¬ (j : Int) < (n2 : Int) := by omega
      have HCE : Hid (cu = shapeB e k) := Lib.hid (by
        have h1 := HC.out
        rw [List.take_of_length_le (by have := HN2.out; omega), HKV.out, HN2.out] at h1
        exact h1)
      go_wp2_with fail
      go_ret
      exact ⟨_, rfl, by rw [← HCE.out]; exact hown, hX⟩
end Go.Proofs.Ytopanbcodfkedaa
