/- The map of names of rightObjects; what objects may stand in a table. -/
import Derived.Test.YtokmbdeafjmcjaaCfP
import Derived.Maps.Own
import Derived.Maps.Views
import Derived.ChangeKeysEq
namespace Go.Proofs.Ytokmbdeafjmcjaa
open Go.RowKit
set_option linter.unusedVariables false

theorem pig : ∀ (n : Nat) (l : List Nat), l.Nodup → (∀ x ∈ l, x < n) → l.length ≤ n
  | 0, [], _, _ => Nat.le_refl _
  | 0, x :: l, _, h => absurd (h x (by simp)) (by omega)
  | n + 1, l, hn, h => by
    have h1 := pig n (l.erase n) (hn.erase n) (fun x hx => by
      have h2 := (hn.mem_erase_iff).1 hx
      have h3 := h x h2.2
      have := h2.1
      omega)
    have h2 : l.length ≤ (l.erase n).length + 1 := by rw [List.length_erase]; split <;> omega
    omega
theorem okObjs_len {l : List Obj} (h : okObjs l) : l.length ≤ 6144 := by
  have h1 : (l.map fun o => o.ctx.toNat * 24 + o.var.toNat).Nodup := by
    have h2 := h.2
    rw [List.Nodup, List.pairwise_map] at h2 ⊢
    refine h2.imp_of_mem (fun {a b} ha hb hne e => hne ?_)
    have h3 := h.1 a ha
    have h4 := h.1 b hb
    unfold okObj at h3 h4
    unfold objName
    have e1 : a.ctx = b.ctx := by omega
    have e2 : a.var = b.var := by omega
    rw [e1, e2]
  have h2 := pig 6144 _ h1 (fun x hx => by
    obtain ⟨o, ho, rfl⟩ := List.mem_map.1 hx
    have h3 := h.1 o ho
    unfold okObj at h3
    omega)
  simpa using h2
theorem okObjs_nil : okObjs [] := ⟨by simp, by simp⟩
theorem okObjs_snoc {l : List Obj} {o : Obj} : okObjs (l ++ [o]) ↔ okObjs l ∧ okObj o ∧ objName o ∉ l.map objName := by
  unfold okObjs
  rw [List.map_append, List.nodup_append]
  constructor
  · rintro ⟨h1, h2, _, h3⟩
    exact ⟨⟨fun x hx => h1 x (by simp [hx]), h2⟩, h1 o (by simp), fun hm => h3 _ hm _ (by simp) rfl⟩
  · rintro ⟨⟨h1, h2⟩, h3, h4⟩
    refine ⟨fun x hx => ?_, h2, by simp, fun a ha b hb e => ?_⟩
    · rcases List.mem_append.1 hx with hx | hx
      · exact h1 x hx
      · simp only [List.mem_singleton] at hx
        subst hx
        exact h3
    · simp only [List.map_cons, List.map_nil, List.mem_singleton] at hb
      subst hb
      exact h4 (e ▸ ha)
theorem okObjs_take {l : List Obj} (j : Nat) (h : okObjs l) : okObjs (l.take j) :=
  ⟨fun o ho => h.1 o (List.mem_of_mem_take ho), by rw [List.map_take]; exact h.2.sublist (List.take_sublist _ _)⟩
/-- the names with a context -/
def rowsAt (c : Int) (l : List Obj) : List (Int × Int) := (l.filter (fun o => decide (o.ctx = c))).map objName
theorem rowsAt_snoc (c : Int) (l : List Obj) (o : Obj) : rowsAt c (l ++ [o]) = if o.ctx = c then rowsAt c l ++ [objName o] else rowsAt c l := by
  unfold rowsAt
  rw [List.filter_append, List.map_append]
  split
  · rename_i h
    simp [h]
  · rename_i h
    simp [h]
theorem mem_rowsAt {l : List Obj} {o : Obj} : objName o ∈ rowsAt o.ctx l ↔ objName o ∈ l.map objName := by
  unfold rowsAt
  constructor
  · intro h
    obtain ⟨x, hx, e⟩ := List.mem_map.1 h
    exact List.mem_map.2 ⟨x, (List.mem_filter.1 hx).1, e⟩
  · intro h
    obtain ⟨x, hx, e⟩ := List.mem_map.1 h
    refine List.mem_map.2 ⟨x, List.mem_filter.2 ⟨hx, ?_⟩, e⟩
    have : x.ctx = o.ctx := by unfold objName at e; injection e
    simpa using this
theorem rowsAt_len (c : Int) (l : List Obj) : (rowsAt c l).length ≤ l.length := by
  unfold rowsAt
  rw [List.length_map]
  exact List.length_filter_le _ _
theorem rowsAt_fst {c : Int} {l : List Obj} {p : Int × Int} (h : p ∈ rowsAt c l) : p.1 = c := by
  obtain ⟨o, ho, rfl⟩ := List.mem_map.1 h
  have := (List.mem_filter.1 ho).2
  simpa [objName] using this
/-! the map in memory -/
def pairCells (p : Int × Int) : List Value := [.int .i64 p.1, .int .i64 p.2]
theorem ar_info : (Try.prog.info? 129).map (fun i => (i.zero, i.size, i.bytes)) = some (some (.agg #[.int .i64 0, .int .i64 0]), 2, 16) := by kernel_rfl
theorem elem_ar : ElemN Try.prog 130 129 2 16 := by
  rcases hi : Try.prog.info? 129 with _ | i
  · have := ar_info; rw [hi] at this; cases this
  · have := ar_info
    rw [hi] at this
    simp only [Option.map_some, Option.some.injEq, Prod.mk.injEq] at this
    exact ⟨Try.underlying130, by omega, i, _, hi, this.1, this.2.1, this.2.2, rfl⟩
theorem ar_size : (Try.prog.info? 129).map (·.size) = some 2 := by kernel_rfl
theorem pair_load {w : World} {b o : Nat} {p : Int × Int} (h : w.rangeAt b o (pairCells p)) : (Instr.loadAt 129 (.pointer (some ⟨b, o, none⟩))).run Try.prog w = .ok (.agg #[.int .i64 p.1, .int .i64 p.2]) w :=
  run_loadAt_mid (P := Try.prog) w b o 129 _ _ h Try.underlying129 rfl (by kernel_rfl)
theorem eqItems_ints (n : Nat) (a b : List Int) (W : World) : ∀ (is : List Nat), (∀ i ∈ is, i < a.length ∧ i < b.length) → (Op.eqItems (n + 1) 3 1 (a.map iv).toArray (b.map iv).toArray is).run Try.prog W = .ok (decide (∀ i ∈ is, a[i]? = b[i]?)) W
  | [], _ => by simp [Op.eqItems]
  | i :: is, h => by
    have hi := h i (by simp)
    have ih := eqItems_ints n a b W is (fun k hk => h k (by simp [hk]))
    have hp : ∀ l : List Int, i < l.length → (part 3 (l.map iv).toArray (i * 1)).run Try.prog W = .ok (.int .i64 (l[i]?.getD 0)) W := fun l hl => by
      unfold part
      simp [isAgg, run_underlying Try.underlying3, hl, iv]
    simp only [Op.eqItems, Sem.run_bind, hp a hi.1, hp b hi.2, Result.andThen_ok, run_equalIn_int W n 3 .i64 .i64 _ _ Try.underlying3]
    have e1 : a[i]? = some (a[i]?.getD 0) := by rw [List.getElem?_eq_getElem hi.1]; rfl
    have e2 : b[i]? = some (b[i]?.getD 0) := by rw [List.getElem?_eq_getElem hi.2]; rfl
    by_cases hab : a[i]?.getD 0 = b[i]?.getD 0
    · have hab' : a[i]? = b[i]? := by rw [e1, e2, hab]
      have hd : decide (∀ k ∈ i :: is, a[k]? = b[k]?) = decide (∀ k ∈ is, a[k]? = b[k]?) := by simp [hab']
      rw [hd]
      simpa [hab] using ih
    · have hab' : ¬ a[i]? = b[i]? := fun e => hab (by rw [e])
      have hd : decide (∀ k ∈ i :: is, a[k]? = b[k]?) = false := by simp [hab']
      rw [hd]
      simp [hab]
theorem info_parts' {t : TypeId} {z : Value} {s b : Nat} (h : (Try.prog.info? t).map (fun i => (i.zero, i.size, i.bytes)) = some (some z, s, b)) : ∃ i, Try.prog.info? t = some i ∧ i.zero = some z ∧ i.size = s ∧ i.bytes = b := by
  rcases hi : Try.prog.info? t with _ | i
  · rw [hi] at h; cases h
  · rw [hi] at h
    simp only [Option.map_some, Option.some.injEq, Prod.mk.injEq] at h
    exact ⟨i, rfl, h.1, h.2.1, h.2.2⟩
theorem eq_ar' (n : Nat) (a b : List Int) (ha : a.length = 2) (hb : b.length = 2) (W : World) : (Op.equalIn (n + 1 + 1) 129 (.agg (a.map iv).toArray) (.agg (b.map iv).toArray)).run Try.prog W = .ok (decide (a = b)) W := by
  obtain ⟨i0, hi, hz0, hz1, hz2⟩ := info_parts' int_info
  have hc : Try.prog.cellsOf 3 = 1 := by kernel_rfl
  rw [run_equalIn_array W (n + 1) _ _ Try.underlying129 hi, hc, eqItems_ints n a b W _ (fun i hi => by simp at hi; omega)]
  refine congrArg (fun x => Result.ok x W) (decide_eq_decide.2 ?_)
  constructor
  · intro h
    apply List.ext_getElem?
    intro i
    by_cases hi : i < 2
    · exact h i (by simpa using hi)
    · rw [List.getElem?_eq_none (by omega), List.getElem?_eq_none (by omega)]
  · rintro rfl i _
    rfl
theorem eq_ar (a b c d : Int) (W : World) : (Op.equalIn 10000 129 (.agg #[.int .i64 a, .int .i64 b]) (.agg #[.int .i64 c, .int .i64 d])).run Try.prog W = .ok (decide ([a, b] = [c, d])) W := eq_ar' 9998 [a, b] [c, d] rfl rfl W
theorem wpList_mapUpdate_run {P : Program} {ops : Array Oper} {rest : List Oper} {o : Oper} {a : Act} {w w' : World} {Q : Exit → Act → World → Prop} (hg : o.guard = none) (m x v : Operand) (t : TypeId) (hop : o.op = Op.mapUpdate t m x v)
    (mv key val : Value) (hm : a.eval m = mv) (hx : a.eval x = key) (hv : a.eval v = val) (hrun : (Instr.mapUpdate t mv key val).run P w = .ok () w') (h : wpList P ops Q rest (a.put o.dst undef) w') : wpList P ops Q (o :: rest) a w := by
  refine wpList_plain hg fun K' hK' => ?_
  unfold Oper.wp
  simp [execOp, hop, hm, hx, hv, hrun, Result.andThen]
  exact hK' _ _ h
def heldR (v : Value) : Option (DataW Value × List MemPlace) := some (.held v, [])
/-- a map from numbers to rows of names, each row of the call's own, none twice -/
structure MS (base b n : Nat) (W : World) (V : Int → Value) (M : Int → List (Int × Int)) : Prop where
  map : ∃ D : DataW Value, W.ownsMap Try.prog 3 heldR b n D ∧ Maps.IsMap D ∧ ∀ c, D.atKey (.int .i64 c) (.held (.slice none 0 0)) = .held (V c)
  row : ∀ c, OwnR pairCells 2 129 base W (V c) (M c)
  apart : ∀ c c', c ≠ c' → (V c).ownBlock = none ∨ (V c).ownBlock ≠ (V c').ownBlock
  low : base ≤ b
theorem zero_rs (w : World) : (zeroValue 130).run Try.prog w = .ok (.slice none 0 0) w := by go_simp
theorem key_int {c : Int} (h : -9223372036854775808 ≤ c ∧ c ≤ 9223372036854775807) : keyOf Try.prog 3 (.int .i64 c) = some (.int .i64 c) :=
  Maps.keyOf_int_mk Try.underlying3 (by simp [Lit.wf, IntKind.min, IntKind.max, IntKind.bits, IntKind.signed]; omega)
theorem MS.made (w : World) : MS w.heap.size w.heap.size 0 (w.alloc (.map #[] 0)) (fun _ => .slice none 0 0) (fun _ => []) :=
  ⟨⟨.map [], World.ownsMap_made w _ _ _, Maps.isMap_empty, fun c => rfl⟩, fun c => OwnR.nil _, fun _ _ _ => .inl rfl, Nat.le_refl _⟩
section
variable {base b n : Nat} {W W' : World} {V : Int → Value} {M : Int → List (Int × Int)}
theorem MS.blk (h : MS base b n W V M) : b < W.heap.size := by obtain ⟨D, h1, _⟩ := h.map; exact h1.lt
theorem MS.ext (h : MS base b n W V M) (he : Ext W W') : MS base b n W' V M := by
  obtain ⟨D, h1, h2, h3⟩ := h.map
  exact ⟨⟨D, h1.kept (he.grownBy none) (by simp), h2, h3⟩, fun c => (h.row c).ext he, h.apart, h.low⟩
/-- a row is no map -/
theorem MS.ne (h : MS base b n W V M) (c : Int) : (V c).ownBlock ≠ some b := fun e => by
  obtain ⟨D, ⟨es, clock, hb, _⟩, _⟩ := h.map
  rcases (h.row c).2 with ⟨hv, _⟩ | ⟨g, cap, cur, hv, _, hg, _⟩
  · rw [hv] at e; cases e
  · rw [hv] at e
    have : g = b := by simpa [Value.ownBlock] using e
    subst this
    rw [hb] at hg
    cases hg
theorem MS.look (h : MS base b n W V M) {c : Int} (hc : -9223372036854775808 ≤ c ∧ c ≤ 9223372036854775807) (hg : W.grownBy W' (V c).ownBlock) :
    (Instr.lookup 128 (.map (some b)) (.int .i64 c) false).run Try.prog W' = .ok (V c) W' := by
  obtain ⟨D, h1, h2, h3⟩ := h.map
  have h1' := h1.kept hg (h.ne c).symm
  obtain ⟨v, ps, hr, hv⟩ := h1'.lookup (t := 128) (e := 130) (Maps.int_keyed Try.underlying3) Try.underlying128 (zero_rs W') (zd := .held (.slice none 0 0)) rfl (key_int hc)
  unfold heldR at hv
  rw [h3 c] at hv
  simp only [Option.some.injEq, Prod.mk.injEq, DataW.held.injEq] at hv
  rw [hr, hv.1]
/-- the row at c has grown, and is laid into the map -/
theorem MS.put (h : MS base b n W V M) {c : Int} {v : Value} {m : List (Int × Int)} (hc : -9223372036854775808 ≤ c ∧ c ≤ 9223372036854775807) (hn : n < 10000)
    (ho : OwnR pairCells 2 129 base W' v m) (hg : Grew W W' (V c) v) :
    ∃ W2, (Instr.mapUpdate 128 (.map (some b)) (.int .i64 c) v).run Try.prog W' = .ok () W2 ∧ MS base b (n + 1) W2 (fun x => if x = c then v else V x) (fun x => if x = c then m else M x) ∧ W'.grownBy W2 (some b) := by
  obtain ⟨D, h1, h2, h3⟩ := h.map
  have h1' := h1.kept hg.grown (h.ne c).symm
  obtain ⟨W2, hr, h4, h5⟩ := h1'.update (t := 128) (e := 130) (Maps.int_keyed Try.underlying3) Try.underlying128 (by simp only [maxLen]; omega) (key_int hc) (d := .held v) (ps := []) rfl
  have hk : WideAt.IsKeyLit (.int .i64 c) := by simp [WideAt.IsKeyLit]
  have hne : v.ownBlock ≠ some b := fun e => by
    have hb := h.blk
    obtain ⟨es, clock, hbb, _⟩ := h1'
    rcases ho.2 with ⟨hv, _⟩ | ⟨g, cap, cur, hv, _, hg2, _⟩
    · rw [hv] at e; cases e
    · rw [hv] at e
      have : g = b := by simpa [Value.ownBlock] using e
      subst this
      rw [hbb] at hg2
      cases hg2
  refine ⟨W2, hr, ⟨⟨_, h4, h2.put _ _, fun x => ?_⟩, fun x => ?_, fun x y hxy => ?_, h.low⟩, h5⟩
  · by_cases hx : x = c
    · subst hx
      simp only [if_true]
      exact Maps.atKey_put_same h2 hk _ _
    · simp only [if_neg hx]
      rw [Maps.atKey_put_other (by simpa using hx)]
      exact h3 x
  · by_cases hx : x = c
    · simp only [if_pos hx]
      exact ho.kept h5 (.inr hne)
    · simp only [if_neg hx]
      exact ((h.row x).kept hg.grown (h.apart x c hx)).kept h5 (.inr (h.ne x))
  · have key : ∀ x, x ≠ c → (V x).ownBlock = none ∨ (V x).ownBlock ≠ v.ownBlock := fun x hx => by
      rcases hg.2 with e | ⟨g, e, hge⟩
      · rw [e]; exact h.apart x c hx
      · rcases hv : (V x).ownBlock with _ | k
        · exact .inl rfl
        · refine .inr fun e2 => ?_
          have h6 := (h.row x).lt k hv
          rw [e] at e2
          injection e2 with e2
          omega
    by_cases hx : x = c
    · by_cases hy : y = c
      · exact absurd (hx.trans hy.symm) hxy
      · simp only [if_pos hx, if_neg hy]
        rcases hv : v.ownBlock with _ | k
        · exact .inl rfl
        · refine .inr fun e2 => ?_
          rcases key y hy with h6 | h6
          · rw [h6] at e2; cases e2
          · exact h6 (by rw [hv, ← e2])
    · by_cases hy : y = c
      · simp only [if_pos hy, if_neg hx]
        exact key x hx
      · simp only [if_neg hy, if_neg hx]
        exact h.apart x y hxy
end
end Go.Proofs.Ytokmbdeafjmcjaa
