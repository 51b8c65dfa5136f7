/- A region that draws its order: values first while a property of the world holds; then two appends, each behind the new row that it takes, in whatever order. No statement about the program. -/
import Derived.Test.YtopanbcodfkedaaRegion
import Derived.Test.YtopanbcodfkedaaBase2
namespace Go.Proofs.Ytopanbcodfkedaa
open Go.RowKit
set_option linter.unusedVariables false

section
variable {P : Program} {md : Region.Mode} {ops : Array Oper} {Q : Exit → Act → World → Prop} {LF : Array Bool} {T : Nat → Array Bool → Act → World → Prop} {S : World → Prop}

/-- whoever has come up, those that it waits for have -/
def Down (md : Region.Mode) (ops : Array Oper) (listed : Array Bool) : Prop := ∀ i o, ops[i]? = some o → listed.getD i false = true → ∀ e ∈ o.after, Region.binds md e = true → listed.getD e.on false = true
def downB (md : Region.Mode) (ops : Array Oper) (listed : Array Bool) : Bool :=
  (List.range ops.size).all fun i => !listed.getD i false || ((ops[i]?).map fun o => o.after.all fun e => !Region.binds md e || listed.getD e.on false).getD true
theorem Down.of {listed : Array Bool} (h : downB md ops listed = true) : Down md ops listed := fun i o ho hl e he hb => by
  have h1 := List.all_eq_true.1 h i (List.mem_range.2 (Array.getElem?_eq_some_iff.1 ho).1)
  simp only [hl, Bool.not_true, Bool.false_or, ho, Option.map_some, Option.getD_some, Array.all_eq_true_iff_forall_mem] at h1
  have h2 := h1 e he
  simpa [hb] using h2
theorem Down.set {listed : Array Bool} (h : Down md ops listed) {i : Nat} (hi : i ∈ Region.ready md ops listed) : Down md ops (listed.setIfInBounds i true) := fun j o ho hl e he hb => by
  have key : listed.getD e.on false = true := by
    by_cases hji : j = i
    · subst hji
      obtain ⟨_, o', ho', hall⟩ := mem_ready.1 hi
      have : o' = o := Option.some.inj (ho'.symm.trans ho)
      subst this
      exact hall e he hb
    · rw [getD_set_ne false (Ne.symm hji)] at hl
      exact h j o ho hl e he hb
  exact getD_set_true key
/-- j waits for i, or for somebody who does -/
def reachB (md : Region.Mode) (ops : Array Oper) : Nat → Nat → Nat → Bool
  | 0, _, _ => false
  | n + 1, j, i => match ops[j]? with
    | none => false
    | some o => o.after.any fun e => Region.binds md e && (e.on == i || reachB md ops n e.on i)
theorem reachB_listed {listed : Array Bool} (h : Down md ops listed) {i : Nat} : ∀ (n j : Nat), listed.getD j false = true → reachB md ops n j i = true → listed.getD i false = true
  | 0, _, _, hr => by cases hr
  | n + 1, j, hj, hr => by
    unfold reachB at hr
    cases ho : ops[j]? with
    | none => rw [ho] at hr; cases hr
    | some o =>
      rw [ho] at hr
      simp only [Array.any_eq_true', Bool.and_eq_true, Bool.or_eq_true, beq_iff_eq] at hr
      obtain ⟨e, he, hb, hx⟩ := hr
      have h1 := h j o ho hj e he hb
      rcases hx with rfl | hx
      · exact h1
      · exact reachB_listed h n _ h1 hx
theorem reachB_not {listed : Array Bool} (h : Down md ops listed) {i j n : Nat} (hj : j ∈ Region.ready md ops listed) (hi : listed.getD i true = false) (hr : reachB md ops n j i = true) : False := by
  cases n with
  | zero => cases hr
  | succ n =>
    obtain ⟨_, o, ho, hall⟩ := mem_ready.1 hj
    unfold reachB at hr
    rw [ho] at hr
    simp only [Array.any_eq_true', Bool.and_eq_true, Bool.or_eq_true, beq_iff_eq] at hr
    obtain ⟨e, he, hb, hx⟩ := hr
    have h1 := hall e he hb
    have h2 : listed.getD i false = true := by
      rcases hx with rfl | hx
      · exact h1
      · exact reachB_listed h n _ h1 hx
    rw [getD_both hi] at h2
    cases h2
/-- whoever is not of LF waits for i, if need be by others -/
def tailT (md : Region.Mode) (ops : Array Oper) (LF : Array Bool) (i : Nat) : Bool :=
  (List.range ops.size).all fun j => LF.getD j false || reachB md ops 8 j i
theorem tailT_spec {i : Nat} (h : tailT md ops LF i = true) {j : Nat} (hj : LF.getD j false = false) (hs : j < ops.size) : reachB md ops 8 j i = true := by
  have h1 := List.all_eq_true.1 h j (List.mem_range.2 hs)
  simpa [hj] using h1

/-- whatever of LF comes up keeps S, until all of LF has come up, and then T -/
def wpY (P : Program) (md : Region.Mode) (ops : Array Oper) (Q : Exit → Act → World → Prop) (LF : Array Bool) (T : Nat → Array Bool → Act → World → Prop) (S : World → Prop) : Nat → Array Bool → Act → World → Prop
  | 0, listed, a, w => listed = LF ∧ T 0 LF a w
  | n + 1, listed, a, w => Region.ready md ops listed ≠ [] ∧
      (∀ i ∈ Region.ready md ops listed, LF.getD i false = true → wpOp P ops Q i (fun a' w' => S w' ∧ wpY P md ops Q LF T S n (listed.setIfInBounds i true) a' w') a w) ∧
      (∀ i ∈ Region.ready md ops listed, LF.getD i false = false → T (n + 1) listed a w)

theorem wpY.any {m : Nat} (hT : ∀ k listed a W, T k listed a W → wpAny P md ops Q (k + m) listed a W) : ∀ (n : Nat) (listed : Array Bool) (a : Act) (w : World), wpY P md ops Q LF T S n listed a w → wpAny P md ops Q (n + m) listed a w
  | 0, listed, a, w, h => by
    obtain ⟨rfl, h2⟩ := h
    exact hT 0 _ a w h2
  | n + 1, listed, a, w, h => by
    by_cases hx : ∃ i, i ∈ Region.ready md ops listed ∧ LF.getD i false = false
    · obtain ⟨i, hi, hl⟩ := hx
      exact hT (n + 1) listed a w (h.2.2 i hi hl)
    · rw [show n + 1 + m = (n + m) + 1 by omega]
      refine ⟨fun h0 => absurd h0 h.1, fun i hi => wpOp_mono (fun a' w' h' => wpY.any hT n _ a' w' h'.2) (h.2.1 i hi ?_)⟩
      cases hl : LF.getD i false with
      | true => rfl
      | false => exact absurd ⟨i, hi, hl⟩ hx

theorem wpY_val {i : Nat} {oi : Oper} {v : Value} (hi : ops[i]? = some oi) (hsel : ∀ (j : Nat) (o : Oper) cs b, ops[j]? = some o → o.op ≠ .select cs b)
    (hQ : ∀ c a w, Q (.panic c) (a.put oi.dst v) w → Q (.panic c) a w) (hLF : LF.getD i false = true) (ht : tailT md ops LF i = true) :
    ∀ (n : Nat) (listed : Array Bool) (a : Act) (w : World), Down md ops listed →
      (∀ j oj, ops[j]? = some oj → j ≠ i → listed.getD j true = false → (∀ e ∈ oj.after, Region.binds md e = true → e.on ≠ i) → oi.apart ops oj = true) →
      i ∈ Region.ready md ops listed → YieldsIf P ops S oi v a → S w →
      wpY P md ops Q LF T S n (listed.setIfInBounds i true) (a.put oi.dst v) w → wpY P md ops Q LF T S (n + 1) listed a w := by
  intro n
  induction n with
  | zero =>
    intro listed a w hdn hfree hr hy hS H
    refine ⟨fun h => (by rw [h] at hr; cases hr), fun j hj hjl => ?_, fun j hj hjl => (reachB_not hdn hj (mem_ready.1 hr).1 (tailT_spec ht hjl (ready_lt hj))).elim⟩
    by_cases hji : j = i
    · subst hji; exact hy.wpOp hi hS ⟨hS, H⟩
    · have h1 := ready_mono hj hji
      rw [H.1] at h1
      exact (ready_not h1 hjl).elim
  | succ n ih =>
    intro listed a w hdn hfree hr hy hS H
    refine ⟨fun h => (by rw [h] at hr; cases hr), fun j hj hjl => ?_, fun j hj hjl => (reachB_not hdn hj (mem_ready.1 hr).1 (tailT_spec ht hjl (ready_lt hj))).elim⟩
    by_cases hji : j = i
    · subst hji; exact hy.wpOp hi hS ⟨hS, H⟩
    · have h1 := H.2.1 j (ready_mono hj hji) hjl
      obtain ⟨hjun, oj, hoj, hall⟩ := mem_ready.1 hj
      have hnot : ∀ e ∈ oj.after, Region.binds md e = true → e.on ≠ i := fun e he hb heq => by
        have h1 := hall e he hb
        rw [heq, getD_both (mem_ready.1 hr).1] at h1
        cases h1
      have hap := hfree j oj hoj hji hjun hnot
      have hfree' : ∀ k ok, ops[k]? = some ok → k ≠ i → (listed.setIfInBounds j true).getD k true = false →
          (∀ e ∈ ok.after, Region.binds md e = true → e.on ≠ i) → oi.apart ops ok = true := fun k ok hk hki hun hno => by
        refine hfree k ok hk hki ?_ hno
        by_cases hjk : j = k
        · subst hjk; exact hjun
        · rw [getD_set_ne true hjk] at hun; exact hun
      have h2 := wpOp_putIf hoj hap (fun cs b => hsel i oi cs b hi) (fun cs b => hsel j oj cs b hoj) hQ hy h1
      refine wpOp_mono (fun a' w' h3 => ⟨h3.2.1, ih (listed.setIfInBounds j true) a' w' (hdn.set hj) hfree' (ready_mono hr (Ne.symm hji)) h3.1 h3.2.1 ?_⟩) h2
      rw [Array.setIfInBounds_comm _ _ hji]
      exact h3.2.2

/-- a value -/
theorem wpY_v (i : Nat) {oi : Oper} {d : Tmp} (v : Value) {n : Nat} {listed : Array Bool} {tm : Array Value} {df : List Deferred} {w : World} (hi : ops[i]? = some oi) (hd : oi.dst = some d)
    (hs : Region.noSelect ops = true) (hf : Region.free md ops listed i = true) (hr : (Region.ready md ops listed).contains i = true)
    (hQ : ∀ c a b w, Q (.panic c) a w → Q (.panic c) b w) (ht : (tailT md ops LF i && downB md ops listed) = true) (hLF : LF.getD i false = true)
    (hg : Region.wanted oi (yielded ops tm) = true) (hS : S w) (hy : ∀ W, S W → (execOp (Act.mk tm df).eval oi).run P W = .ok (.value v) W)
    (h : wpY P md ops Q LF T S n (listed.setIfInBounds i true) ⟨tm.setIfInBounds d v, df⟩ w) : wpY P md ops Q LF T S (n + 1) listed ⟨tm, df⟩ w :=
  wpY_val hi (Region.noSelect_spec hs) (fun c a w => hQ c _ _ w) hLF (by simp at ht; exact ht.1) n listed _ w (Down.of (by simp at ht; exact ht.2)) (Region.free_spec hi hf) (by simpa using hr) (Or.inl ⟨hg, hy⟩) hS (by rw [hd]; exact h)

theorem wp_region_Y {id : Nat} {a : Act} {w : World} (S : World → Prop) (LF : Array Bool) (n m : Nat) (hm : P.follows .mixedOrders = true) (hn : n + m = ops.size)
    (h : wpY P .any ops (NoPanic Q) LF (fun k listed a W => wpAny P .any ops (NoPanic Q) (k + m) listed a W) S n (Array.replicate ops.size false) a w.drew) : (Code.region id ops true).wp P Q a w :=
  wp_region_noPanic (wp_region_any hm (by
    have := wpY.any (fun k listed a W h => h) n _ _ _ h
    rw [hn] at this
    exact this))

theorem Act.eval_put_same {tm : Array Value} {df : List Deferred} {d : Tmp} {v : Value} (h : d < tm.size) : (Act.put ⟨tm, df⟩ (some d) v).eval (.tmp d) = v := by
  simp [Act.put, Act.eval, h]

theorem pairwise_ne_of_mem {α β : Type} {f : α → β} {l : List α} (h : l.Pairwise (fun a b => f a ≠ f b)) {x y : α} (hx : x ∈ l) (hy : y ∈ l) (hne : x ≠ y) : f x ≠ f y := by
  induction l with
  | nil => cases hx
  | cons a l ih =>
    rw [List.pairwise_cons] at h
    rcases List.mem_cons.1 hx with hx' | hx'
    · subst hx'
      rcases List.mem_cons.1 hy with hy' | hy'
      · exact absurd hy'.symm hne
      · exact h.1 y hy'
    · rcases List.mem_cons.1 hy with hy' | hy'
      · subst hy'; exact fun e => h.1 x hx' e.symm
      · exact ih h.2 hx' hy'
/-- slots that are written one after another -/
def putL (l : List (Tmp × Value)) (a : Act) : Act := l.foldl (fun a p => a.put (some p.1) p.2) a
theorem putL_size (l : List (Tmp × Value)) (a : Act) : (putL l a).tmps.size = a.tmps.size ∧ (putL l a).defers = a.defers := by
  induction l generalizing a with
  | nil => exact ⟨rfl, rfl⟩
  | cons p l ih =>
    show (putL l (a.put (some p.1) p.2)).tmps.size = _ ∧ (putL l (a.put (some p.1) p.2)).defers = _
    rw [(ih _).1, (ih _).2]
    exact ⟨by simp [Act.put], rfl⟩
theorem putL_get (dst : Nat → Tmp) (b : Array Value) (R : List Nat) (a : Act) (hs : b.size = a.tmps.size) (t : Nat) :
    (putL (R.map fun j => (dst j, b.getD (dst j) undef)) a).tmps[t]? = if t ∈ R.map dst then b[t]? else a.tmps[t]? := by
  induction R generalizing a with
  | nil => simp [putL]
  | cons j R ih =>
    show (putL (R.map fun j => (dst j, b.getD (dst j) undef)) (a.put (some (dst j)) (b.getD (dst j) undef))).tmps[t]? = _
    rw [ih _ (by simpa [Act.put] using hs)]
    by_cases h1 : t ∈ R.map dst
    · rw [if_pos h1, if_pos (by simp only [List.map_cons, List.mem_cons]; exact .inr h1)]
    · rw [if_neg h1]
      by_cases h2 : t = dst j
      · subst h2
        rw [if_pos (by simp)]
        simp only [Act.put]
        rcases Nat.lt_or_ge (dst j) a.tmps.size with h | h
        · rw [Array.getElem?_setIfInBounds_self_of_lt h]
          simp [hs, h]
        · rw [Array.getElem?_eq_none (by simpa using h), Array.getElem?_eq_none (by omega)]
      · rw [if_neg (by simp only [List.map_cons, List.mem_cons, not_or]; exact ⟨h2, h1⟩)]
        simp only [Act.put]
        rw [Array.getElem?_setIfInBounds_ne (Ne.symm h2)]
theorem putL_eq (dst : Nat → Tmp) (R : List Nat) (a a0 : Act) (hs : a.tmps.size = a0.tmps.size) (hd : a.defers = a0.defers) (h : ∀ t, t ∉ R.map dst → a.tmps[t]? = a0.tmps[t]?) : a = putL (R.map fun j => (dst j, a.eval (.tmp (dst j)))) a0 := by
  obtain ⟨tm, df⟩ := a
  have h1 := putL_size (R.map fun j => (dst j, (Act.mk tm df).eval (.tmp (dst j)))) a0
  have h2 : tm = (putL (R.map fun j => (dst j, (Act.mk tm df).eval (.tmp (dst j)))) a0).tmps := by
    apply Array.ext_getElem?
    intro t
    refine Eq.trans ?_ (putL_get dst tm R a0 hs t).symm
    by_cases h3 : t ∈ R.map dst
    · rw [if_pos h3]
    · rw [if_neg h3]; exact h t h3
  rcases hq : putL (R.map fun j => (dst j, (Act.mk tm df).eval (.tmp (dst j)))) a0 with ⟨tm', df'⟩
  rw [hq] at h1 h2
  simp only at h1 h2 hd
  rw [h2, hd, h1.2]

/-- what is left of the head of a region -/
def restB (md : Region.Mode) (ops : Array Oper) (LF L0 : Array Bool) (R : List Nat) : Bool :=
  downB md ops L0 && L0.size == ops.size && LF.size == ops.size && R.all (fun i => decide (i < ops.size) && LF.getD i false && !L0.getD i false && tailT md ops LF i && ((ops[i]?).map fun o => o.after.all fun e => !Region.binds md e || (decide (e.on < i) && (L0.getD e.on false || R.contains e.on))).getD false) &&
    (List.range ops.size).all fun i => if LF.getD i false then (L0.getD i false || R.contains i) else !L0.getD i false

/-- each operation that is left is shown once, whatever came up ahead of it: what it asks of the world (H), and what holds of its value and the world behind it (G), is kept by the others -/
theorem wpY_inv (L0 : Array Bool) (R : List Nat) (dst : Nat → Tmp) (G : Nat → Value → World → Prop) (H : Nat → World → Prop) (N : Nat) {n : Nat} {a0 : Act} {w : World}
    (hB : restB md ops LF L0 R = true) (hn : R.length = n) (hnd : (R.map dst).Nodup) (hN : a0.tmps.size = N)
    (hstep : ∀ i ∈ R, ∀ a W, Hid (a.tmps.size = N) → S W → H i W → (∀ t, (R.map dst).contains t = false → a.eval (.tmp t) = a0.eval (.tmp t) ∧ a.tmps[t]?.getD undef = a0.eval (.tmp t)) → (∀ j ∈ R, Region.waitsFor md ops i j = true → G j (a.eval (.tmp (dst j))) W) →
      wpOp P ops Q i (fun a' W' => ∃ v, a' = a.put (some (dst i)) v ∧ (dst i < N ∨ v = undef) ∧ S W' ∧ G i v W' ∧ ∀ j ∈ R, j ≠ i → (∀ u, G j u W → G j u W') ∧ (H j W → H j W')) a W)
    (hS : S w) (hH : ∀ i ∈ R, H i w) (hend : ∀ (x : Nat → Value) W, S W → (∀ j ∈ R, G j (x j) W) → T 0 LF (putL (R.map fun j => (dst j, x j)) a0) W) : wpY P md ops Q LF T S n L0 a0 w := by
  simp only [restB, Bool.and_eq_true, beq_iff_eq, List.all_eq_true, decide_eq_true_eq, List.mem_range] at hB
  obtain ⟨⟨⟨⟨hdn0, hz⟩, hzL⟩, hR⟩, hrest⟩ := hB
  -- the invariant
  suffices HH : ∀ (m : Nat) (D U : List Nat) (listed : Array Bool) (a : Act) (W : World), Down md ops listed → (∀ i ∈ R, i ∈ D ∨ i ∈ U) → (∀ i ∈ D, i ∈ R) → (∀ i ∈ U, i ∈ R ∧ i ∉ D) → U.Nodup → U.length = m → listed.size = ops.size →
      (∀ i, i < ops.size → listed.getD i false = (L0.getD i false || D.contains i)) → a.tmps.size = a0.tmps.size → a.defers = a0.defers → (∀ t, t ∉ R.map dst → a.tmps[t]? = a0.tmps[t]?) → S W → (∀ j ∈ U, H j W) →
      (∀ j ∈ D, G j (a.eval (.tmp (dst j))) W) → wpY P md ops Q LF T S m listed a W by
    have hRnd : R.Nodup := by
      rw [List.nodup_iff_pairwise_ne] at hnd ⊢
      rw [List.pairwise_map] at hnd
      exact hnd.imp fun h e => h (by rw [e])
    exact HH n [] R L0 a0 w (Down.of hdn0) (fun i hi => .inr hi) (fun i hi => absurd hi (by simp)) (fun i hi => ⟨hi, by simp⟩) hRnd hn hz (fun i hi => by simp) rfl rfl (fun _ _ => rfl) hS hH (fun j hj => absurd hj (by simp))
  intro m
  induction m with
  | zero =>
    intro D U listed a W hdn hDU hD hU hnU hl hsz hlist hs hd hfar hSW hHU hG
    obtain rfl : U = [] := List.eq_nil_of_length_eq_zero hl
    have hLF : listed = LF := by
      apply Array.ext (by omega)
      intro i h1 h2
      have h3 := hlist i (by omega)
      have h4 := hrest i (by omega)
      rw [show listed[i] = listed.getD i false by simp [h1], show LF[i] = LF.getD i false by simp [h2], h3]
      cases hb : LF.getD i false with
      | true =>
        rw [hb] at h4
        simp only [if_true, Bool.or_eq_true] at h4
        rcases h4 with h4 | h4
        · rw [h4]; rfl
        · have : i ∈ D := (hDU i (by simpa using h4)).resolve_right (by simp)
          simp [this]
      | false =>
        rw [hb] at h4
        simp only [Bool.false_eq_true, if_false, Bool.not_eq_true'] at h4
        rw [h4]
        simp only [Bool.false_or]
        cases hc : D.contains i with
        | false => rfl
        | true =>
          have h5 := (hR i (hD i (by simpa using hc))).1.1.1.2
          rw [hb] at h5; cases h5
    refine ⟨hLF, ?_⟩
    rw [putL_eq dst R a a0 hs hd hfar]
    exact hend _ W hSW fun j hj => hG j ((hDU j hj).resolve_right (by simp))
  | succ m ih =>
    intro D U listed a W hdn hDU hD hU hnU hl hsz hlist hs hd hfar hSW hHU hG
    -- who may come up
    have hup : ∀ i ∈ Region.ready md ops listed, i ∈ U := fun i hi => by
      obtain ⟨u, hu⟩ : ∃ u, u ∈ U := List.exists_mem_of_length_pos (by omega)
      obtain ⟨huR, huD⟩ := hU u hu
      obtain ⟨⟨⟨⟨hu1, hu2⟩, hu3⟩, hu4⟩, hu5⟩ := hR u huR
      have hilt := ready_lt hi
      have hil : listed.getD i false = false := getD_both (mem_ready.1 hi).1
      cases hb : LF.getD i false with
      | false =>
        have hun : listed.getD u true = false := by
          have := hlist u hu1
          rw [show listed.getD u false = listed.getD u true by simp [hsz, hu1]] at this
          rw [this]
          simp only [Bool.or_eq_false_iff]
          exact ⟨by simpa using hu3, by simpa using huD⟩
        exact (reachB_not hdn hi hun (tailT_spec hu4 hb hilt)).elim
      | true =>
        have h4 := hrest i hilt
        rw [hb] at h4
        simp only [if_true, Bool.or_eq_true] at h4
        have h3 := hlist i hilt
        rw [hil] at h3
        have h5 := (Bool.or_eq_false_iff.1 h3.symm)
        rcases h4 with h4 | h4
        · rw [h5.1] at h4; cases h4
        · exact (hDU i (by simpa using h4)).resolve_left (by simpa using h5.2)
    -- somebody may come up
    have hne : Region.ready md ops listed ≠ [] := by
      have hpos : U ≠ [] := by intro e; rw [e] at hl; cases hl
      obtain ⟨u, hu, hmin⟩ : ∃ u ∈ U, ∀ v ∈ U, u ≤ v := ⟨U.min hpos, List.min_mem hpos, fun v hv => List.min_le_of_mem hv⟩
      obtain ⟨huR, huD⟩ := hU u hu
      obtain ⟨⟨⟨⟨hu1, hu2⟩, hu3⟩, hu4⟩, hu5⟩ := hR u huR
      have : u ∈ Region.ready md ops listed := by
        refine mem_ready.2 ⟨?_, ?_⟩
        · have := hlist u hu1
          rw [show listed.getD u false = listed.getD u true by simp [hsz, hu1]] at this
          rw [this]
          simp only [Bool.or_eq_false_iff]
          exact ⟨by simpa using hu3, by simpa using huD⟩
        · rw [Array.getElem?_eq_getElem hu1] at hu5
          refine ⟨_, Array.getElem?_eq_getElem hu1, fun e he hb => ?_⟩
          simp only [Option.map_some, Option.getD_some, Array.all_eq_true_iff_forall_mem] at hu5
          have h6 := hu5 e he
          simp only [hb, Bool.not_true, Bool.false_or, Bool.and_eq_true, decide_eq_true_eq, Bool.or_eq_true] at h6
          rw [hlist e.on (by omega)]
          simp only [Bool.or_eq_true]
          refine h6.2.imp id fun h7 => ?_
          have h8 := (hDU e.on (by simpa using h7)).resolve_right (fun h9 => by have := hmin _ h9; omega)
          simpa using h8
      intro e
      rw [e] at this
      cases this
    refine ⟨hne, fun i hi _ => ?_, fun i hi hl' => ?_⟩
    · have hiU := hup i hi
      obtain ⟨hiR, hiD⟩ := hU i hiU
      have hilt := ready_lt hi
      refine wpOp_mono ?_ (hstep i hiR a W (Lib.hid (hs.trans hN)) hSW (hHU i hiU) (fun o ho => ?_) (fun j hj hw => ?_))
      · rintro a' W' ⟨v, rfl, hdv, hS', hGi, hk⟩
        refine ⟨hS', ih (i :: D) (U.erase i) _ _ W' (hdn.set hi) ?_ ?_ ?_ (hnU.erase i) (by rw [List.length_erase_of_mem hiU]; omega) (by simpa using hsz) ?_ (by simpa [Act.put] using hs) hd ?_ hS' ?_ ?_⟩
        · intro j hj
          by_cases e : j = i
          · exact .inl (by simp [e])
          · rcases hDU j hj with h | h
            · exact .inl (by simp [h])
            · exact .inr ((List.mem_erase_of_ne e).2 h)
        · intro j hj
          rcases List.mem_cons.1 hj with rfl | h
          · exact hiR
          · exact hD j h
        · intro j hj
          have hj' := List.mem_of_mem_erase hj
          have hne' : j ≠ i := fun e => by
            subst e
            exact (List.Nodup.not_mem_erase hnU) hj
          exact ⟨(hU j hj').1, by simp only [List.mem_cons, not_or]; exact ⟨hne', (hU j hj').2⟩⟩
        · intro j hj
          by_cases e : j = i
          · subst e
            simp [hsz, hj]
          · have h1 := hlist j hj
            have h2 : (listed.setIfInBounds i true).getD j false = listed.getD j false := getD_set_ne false (Ne.symm e)
            rw [h2, h1]
            have h3 : (i :: D).contains j = D.contains j := by
              rw [List.contains_cons]
              have : (j == i) = false := by simpa using e
              rw [this]; rfl
            rw [h3]
        · intro t ht
          have : dst i ≠ t := fun e => ht (by rw [← e]; exact List.mem_map_of_mem hiR)
          simp only [Act.put]
          rw [Array.getElem?_setIfInBounds_ne this]
          exact hfar t ht
        · intro j hj
          have hj' := List.mem_of_mem_erase hj
          have hne' : j ≠ i := fun e => by
            subst e
            exact (List.Nodup.not_mem_erase hnU) hj
          exact (hk j (hU j hj').1 hne').2 (hHU j hj')
        · intro j hj
          rcases List.mem_cons.1 hj with rfl | h
          · have hv : (a.put (some (dst j)) v).eval (.tmp (dst j)) = v := by
              by_cases hlt : dst j < a.tmps.size
              · simp [Act.put, Act.eval, hlt]
              · have : v = undef := hdv.resolve_left (fun h => hlt (by rw [hs, hN]; exact h))
                subst this
                simp [Act.put, Act.eval, hlt]
            rw [hv]
            exact hGi
          · have hjR := hD j h
            have hji : j ≠ i := fun e => by subst e; exact hiD h
            have hdd : dst i ≠ dst j := by
              intro e
              have hnd' := hnd
              rw [List.nodup_iff_pairwise_ne, List.pairwise_map] at hnd'
              exact absurd e (pairwise_ne_of_mem hnd' hiR hjR (Ne.symm hji))
            rw [Act.eval_put (fun d e => by injection e with e; subst e; intro e2; injection e2 with e2; exact hdd e2.symm)]
            exact (hk j hjR hji).1 _ (hG j h)
      · have hno : o ∉ R.map dst := by simpa using ho
        have e := hfar o hno
        exact ⟨by simp only [Act.eval, Array.getD_eq_getD_getElem?, e], by simp only [Act.eval, Array.getD_eq_getD_getElem?, e]⟩
      · have hjlt := (hR j hj).1.1.1.1
        rcases hDU j hj with h | h
        · exact hG j h
        · have hun : listed.getD j true = false := by
            have := hlist j hjlt
            rw [show listed.getD j false = listed.getD j true by simp [hsz, hjlt]] at this
            rw [this]
            simp only [Bool.or_eq_false_iff]
            exact ⟨by simpa using (hR j hj).1.1.2, by simpa using (hU j h).2⟩
          exact (waits_not hi hun hw).elim
    · have h1 := (hR i (hU i (hup i hi)).1).1.1.1.2
      rw [hl'] at h1; cases h1

theorem OwnV_new {α : Type} {f : α → Value} (w : World) (x : α) (e : TypeId) : OwnV f e w.heap.size (w.alloc (.cells #[f x] e)) (.slice (some ⟨w.heap.size, 0, none⟩) 1 1) [x] :=
  ⟨rfl, .inr ⟨w.heap.size, 1, #[f x], rfl, Nat.le_refl _, heap_alloc_new w _, Nat.le_refl _, by decide, rfl, rfl⟩⟩


/-- a row of one cell is made -/
theorem op_make {B : Nat} {ob : Oper} {K : Act → World → Prop} {a : Act} {W W' : World} {v : Value} (hob : ops[B]? = some ob) (gb : ob.guard = none) (hmk : (execOp a.eval ob).run P W = .ok (.value v) W') (h : K (a.put ob.dst v) W') : wpOp P ops Q B K a W := by
  unfold wpOp
  simp only [hob]
  rw [if_pos (by simp [Region.wanted, gb])]
  refine .inl ?_
  simp only [Oper.wp, hmk, Oper.upon]
  exact h
/-- an operation that yields no value -/
theorem op_skip {B : Nat} {ob : Oper} {K : Act → World → Prop} {a : Act} {W W' : World} (hob : ops[B]? = some ob) (db : ob.dst = none) (gb : ob.guard = none) (hmk : (execOp a.eval ob).run P W = .ok .skip W') (h : K a W') : wpOp P ops Q B K a W := by
  unfold wpOp
  simp only [hob]
  rw [if_pos (by simp [Region.wanted, gb])]
  refine .inl ?_
  simp only [Oper.wp, hmk, Oper.upon]
  rw [db]
  exact h
theorem put_out {a : Act} {N d : Nat} (hN : Hid (a.tmps.size = N)) (h : N ≤ d) (v : Value) : a = a.put (some d) v := by
  replace hN := hN.out
  obtain ⟨tm, df⟩ := a
  simp only at hN
  simp only [Act.put]
  congr
  apply Array.ext_getElem?
  intro t
  by_cases e : d = t
  · subst e
    rw [Array.getElem?_eq_none (by omega), Array.getElem?_eq_none (by simp; omega)]
  · rw [Array.getElem?_setIfInBounds_ne e]
/-- a call of a Go function -/
theorem op_call {B : Nat} {ob : Oper} {K : Act → World → Prop} {a : Act} {W : World} {f : FuncId} {args : Array Value} (hob : ops[B]? = some ob) (gb : ob.guard = none) (hx : (execOp a.eval ob).run P W = .ok (.enter f args) W) (h : Calls P f args W (fun e w' => ∃ v, e = .returned v ∧ K (a.put ob.dst v) w')) : wpOp P ops Q B K a W := by
  unfold wpOp
  simp only [hob]
  rw [if_pos (by simp [Region.wanted, gb])]
  refine .inl ?_
  simp only [Oper.wp, hx, Oper.upon]
  refine h.mono ?_
  rintro e w' ⟨v, rfl, hK⟩
  exact hK
theorem eval_get {a : Act} {t : Tmp} {v : Value} (h : a.eval (.tmp t) = v) : a.tmps[t]?.getD undef = v := by
  rw [← h]; simp [Act.eval]
/-- an append to a row of the call's own -/
theorem op_append {α : Type} {f : α → Value} {e t : TypeId} {bytes : Nat} (he : Elem1 P t e bytes) (h1 : ∀ y, (f y).oneCell' = true) {base : Nat} {v : Value} {l m : List α} {A : Nat} {oa : Oper} {s x : Operand} {u : Value} {K : Act → World → Prop} {a : Act} {W : World}
    (hoa : ops[A]? = some oa) (ga : oa.guard = none) (op : oa.op = .call { callee := .builtin .append, args := #[s, x], argTypes := #[t, t] }) (hs : a.eval s = v) (hu : a.eval x = u)
    (hb : base ≤ W.heap.size) (hl : l.length + m.length ≤ 1073741824) (hby : bytes ≤ 4096) (h2 : OwnV f e base W v l) (h3 : InV f W u m)
    (h : ∀ v' W', OwnV f e base W' v' (l ++ m) → Grew W W' v v' → K (a.put oa.dst v') W') : wpOp P ops Q A K a W := by
  unfold wpOp
  simp only [hoa]
  rw [if_pos (by simp [Region.wanted, ga])]
  refine .inl ?_
  obtain ⟨i0, z, hi, hz0, hz1, hz2, hzc⟩ := he.info
  obtain ⟨Ad, c, hue, _, hr⟩ := h3
  refine wp_append_rd s x t op base _ i0 _ 1 bytes he.slice hi hz0 hz1 hz2 hzc (by omega) v l.length _ hs h2 Ad m.length c (m.map f) (by rw [hu, hue]) (by simp) hr (fun y hy => by
      obtain ⟨b, _, rfl⟩ := List.mem_map.1 hy
      exact h1 b)
    (by simp only [maxLen]; omega) (by
      have : (l.length + m.length) * bytes ≤ 1073741824 * 4096 := Nat.mul_le_mul hl hby
      omega) hb fun v' w' g2 g3 g4 => h v' w' (by unfold OwnV; simpa using g2) (Grew.of_append g3 g4)
end

/-- only these two rows were written -/
structure Keep2 (r1 r2 : Option Nat) (w W : World) : Prop where
  os : W.os = w.os
  tape : W.tape = w.tape
  output : W.output = w.output
  size : w.heap.size ≤ W.heap.size
  block : ∀ g, g < w.heap.size → some g ≠ r1 → some g ≠ r2 → W.heap[g]? = w.heap[g]?
theorem Keep2.refl (r1 r2 : Option Nat) (w : World) : Keep2 r1 r2 w w := ⟨rfl, rfl, rfl, Nat.le_refl _, fun _ _ _ _ => rfl⟩
theorem Keep2.ext {r1 r2 : Option Nat} {w W W' : World} (h : Keep2 r1 r2 w W) (he : Ext W W') : Keep2 r1 r2 w W' :=
  ⟨he.os.trans h.os, he.tape.trans h.tape, he.output.trans h.output, Nat.le_trans h.size he.size, fun g hg a b => (he.block g (Nat.lt_of_lt_of_le hg h.size)).trans (h.block g hg a b)⟩
theorem Keep2.one {r1 r2 : Option Nat} {w W W' : World} (h : Keep2 r1 r2 w W) (he : W.grownBy W' r1) : Keep2 r1 r2 w W' :=
  ⟨he.os.trans h.os, he.tape.trans h.tape, he.output.trans h.output, Nat.le_trans h.size he.size, fun g hg a b => (he.block g (Nat.lt_of_lt_of_le hg h.size) a).trans (h.block g hg a b)⟩
theorem Keep2.two {r1 r2 : Option Nat} {w W W' : World} (h : Keep2 r1 r2 w W) (he : W.grownBy W' r2) : Keep2 r1 r2 w W' :=
  ⟨he.os.trans h.os, he.tape.trans h.tape, he.output.trans h.output, Nat.le_trans h.size he.size, fun g hg a b => (he.block g (Nat.lt_of_lt_of_le hg h.size) b).trans (h.block g hg a b)⟩
theorem Keep2.heap {r1 r2 : Option Nat} {w W : World} (h : Keep2 r1 r2 w W) {g : Nat} {o : Obj} (hc : w.heap[g]? = some o) (h1 : some g ≠ r1) (h2 : some g ≠ r2) : W.heap[g]? = some o := by
  have hg : g < w.heap.size := by
    rcases Nat.lt_or_ge g w.heap.size with h | h
    · exact h
    · rw [Array.getElem?_eq_none h] at hc; cases hc
  exact (h.block g hg h1 h2).trans hc
theorem Keep2.of_ext {r1 r2 : Option Nat} {w0 w W : World} (h : Keep2 r1 r2 w W) (he : Ext w0 w) (h1 : ∀ k, r1 = some k → w0.heap.size ≤ k) (h2 : ∀ k, r2 = some k → w0.heap.size ≤ k) : Ext w0 W :=
  ⟨h.os.trans he.os, h.tape.trans he.tape, h.output.trans he.output, Nat.le_trans he.size h.size, fun g hg => (h.block g (Nat.lt_of_lt_of_le hg he.size) (fun e => by have := h1 g e.symm; omega) (fun e => by have := h2 g e.symm; omega)).trans (he.block g hg)⟩
theorem Keep2.ownV {α : Type} {f : α → Value} {e : TypeId} {base : Nat} {r1 r2 : Option Nat} {w W : World} {v : Value} {l : List α} (h : Keep2 r1 r2 w W) (ho : OwnV f e base w v l) (h1 : v.ownBlock = none ∨ v.ownBlock ≠ r1) (h2 : v.ownBlock = none ∨ v.ownBlock ≠ r2) : OwnV f e base W v l := by
  refine ⟨ho.1, ?_⟩
  rcases ho.2 with h3 | ⟨g, cap, cur, rfl, hg, hh, r⟩
  · exact Or.inl h3
  · refine Or.inr ⟨g, cap, cur, rfl, hg, h.heap hh ?_ ?_, r⟩
    · rcases h1 with h1 | h1
      · cases h1
      · exact h1
    · rcases h2 with h2 | h2
      · cases h2
      · exact h2
end Go.Proofs.Ytopanbcodfkedaa
