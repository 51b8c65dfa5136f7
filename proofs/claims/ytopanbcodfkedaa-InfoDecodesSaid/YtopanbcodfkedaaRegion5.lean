/- The region theorem where stores may come up between evaluations: what memory holds is told by which stores have come up. No statement about the program. -/
import Derived.Test.YtopanbcodfkedaaRegion4
namespace Go.Proofs.Ytopanbcodfkedaa
open Go.RowKit
set_option linter.unusedVariables false
section
variable {P : Program} {md : Region.Mode} {ops : Array Oper} {Q : Exit → Act → World → Prop} {st : List Nat} {S : (Nat → Bool) → World → Prop}

/-- the stores of st that have come up -/
def upF (st : List Nat) (listed : Array Bool) : Nat → Bool := fun k => st.contains k && listed.getD k false
theorem upF_set {i : Nat} (h : st.contains i = false) (listed : Array Bool) : upF st (listed.setIfInBounds i true) = upF st listed := by
  funext k
  unfold upF
  by_cases e : i = k
  · subst e; rw [h]; rfl
  · rw [getD_set_ne false e]
def wpV (P : Program) (md : Region.Mode) (ops : Array Oper) (Q : Exit → Act → World → Prop) (st : List Nat) (S : (Nat → Bool) → World → Prop) : Nat → Array Bool → Act → World → Prop
  | 0, listed, a, w => Region.ready md ops listed = [] ∧ Q .normal a w
  | n + 1, listed, a, w => Region.ready md ops listed ≠ [] ∧
      ∀ i ∈ Region.ready md ops listed, wpOp P ops Q i (fun a' w' => S (upF st (listed.setIfInBounds i true)) w' ∧ wpV P md ops Q st S n (listed.setIfInBounds i true) a' w') a w
theorem wpV.any : ∀ (n : Nat) (listed : Array Bool) (a : Act) (w : World), wpV P md ops Q st S n listed a w → wpAny P md ops Q n listed a w
  | 0, listed, a, w, h => h
  | n + 1, listed, a, w, h => ⟨fun h0 => absurd h0 h.1, fun i hi => wpOp_mono (fun a' w' h' => wpV.any n _ a' w' h'.2) (h.2 i hi)⟩
/-- worlds in which i may come up -/
def InS (md : Region.Mode) (ops : Array Oper) (st : List Nat) (S : (Nat → Bool) → World → Prop) (i : Nat) (W : World) : Prop := ∃ listed, Down md ops listed ∧ listed.getD i true = false ∧ S (upF st listed) W
theorem wpV_val {i : Nat} {oi : Oper} {v : Value} (hi : ops[i]? = some oi) (hsel : ∀ (j : Nat) (o : Oper) cs b, ops[j]? = some o → o.op ≠ .select cs b)
    (hQ : ∀ c a w, Q (.panic c) (a.put oi.dst v) w → Q (.panic c) a w) (hst : st.contains i = false) :
    ∀ (n : Nat) (listed : Array Bool) (a : Act) (w : World), Down md ops listed →
      (∀ j oj, ops[j]? = some oj → j ≠ i → listed.getD j true = false → (∀ e ∈ oj.after, Region.binds md e = true → e.on ≠ i) → oi.apart ops oj = true) →
      i ∈ Region.ready md ops listed → YieldsIf P ops (InS md ops st S i) oi v a → S (upF st listed) w →
      wpV P md ops Q st S n (listed.setIfInBounds i true) (a.put oi.dst v) w → wpV P md ops Q st S (n + 1) listed a w := by
  intro n
  induction n with
  | zero =>
    intro listed a w hdn hfree hr hy hS H
    refine ⟨fun h => (by rw [h] at hr; cases hr), fun j hj => ?_⟩
    by_cases hji : j = i
    · subst hji; exact hy.wpOp hi ⟨listed, hdn, (mem_ready.1 hr).1, hS⟩ ⟨by rw [upF_set hst]; exact hS, H⟩
    · have h1 := ready_mono hj hji
      rw [H.1] at h1
      cases h1
  | succ n ih =>
    intro listed a w hdn hfree hr hy hS H
    refine ⟨fun h => (by rw [h] at hr; cases hr), fun j hj => ?_⟩
    by_cases hji : j = i
    · subst hji; exact hy.wpOp hi ⟨listed, hdn, (mem_ready.1 hr).1, hS⟩ ⟨by rw [upF_set hst]; exact hS, H⟩
    · have h1 := H.2 j (ready_mono hj hji)
      obtain ⟨hjun, oj, hoj, hall⟩ := mem_ready.1 hj
      have hnot : ∀ e ∈ oj.after, Region.binds md e = true → e.on ≠ i := fun e he hb heq => by
        have h1 := hall e he hb
        rw [heq, getD_both (mem_ready.1 hr).1] at h1
        cases h1
      have hap := hfree j oj hoj hji hjun hnot
      have hfree' : ∀ k ok, ops[k]? = some ok → k ≠ i → (listed.setIfInBounds j true).getD k true = false →
          (∀ e ∈ ok.after, Region.binds md e = true → e.on ≠ i) → oi.apart ops ok = true := fun k ok hk hki hun hno => by
        refine hfree k ok hk hki ?_ hno
        by_cases hjk : j = k
        · subst hjk; exact hjun
        · rw [getD_set_ne true hjk] at hun; exact hun
      have hyj : YieldsIf P ops (InS md ops st S i) oi v a := hy
      have h2 := wpOp_putIf hoj hap (fun cs b => hsel i oi cs b hi) (fun cs b => hsel j oj cs b hoj) hQ hy h1
      refine wpOp_mono (fun a' w' h3 => ?_) h2
      have hS' : S (upF st (listed.setIfInBounds j true)) w' := by
        have h4 := h3.2.1
        rw [Array.setIfInBounds_comm _ _ (Ne.symm hji), upF_set hst] at h4
        exact h4
      refine ⟨hS', ih (listed.setIfInBounds j true) a' w' (hdn.set hj) hfree' (ready_mono hr (Ne.symm hji)) h3.1 hS' ?_⟩
      rw [Array.setIfInBounds_comm _ _ hji]
      exact h3.2.2
/-- a value; hw: the stores that wait for it have not come up -/
theorem wpV_v (i : Nat) {oi : Oper} {d : Tmp} (v : Value) {n : Nat} {listed : Array Bool} {tm : Array Value} {df : List Deferred} {w : World} (hi : ops[i]? = some oi) (hd : oi.dst = some d)
    (hs : Region.noSelect ops = true) (hf : Region.free md ops listed i = true) (hr : (Region.ready md ops listed).contains i = true)
    (hQ : ∀ c a b w, Q (.panic c) a w → Q (.panic c) b w) (hb : (!st.contains i && downB md ops listed) = true) (hS : S (upF st listed) w)
    (hg : Region.wanted oi (yielded ops tm) = true) (hy : ∀ W (f : Nat → Bool), S f W → (∀ k, st.contains k = true → reachB md ops 8 k i = true → f k = false) → (execOp (Act.mk tm df).eval oi).run P W = .ok (.value v) W)
    (h : S (upF st (listed.setIfInBounds i true)) w → wpV P md ops Q st S n (listed.setIfInBounds i true) ⟨tm.setIfInBounds d v, df⟩ w) : wpV P md ops Q st S (n + 1) listed ⟨tm, df⟩ w := by
  simp only [Bool.and_eq_true, Bool.not_eq_true'] at hb
  refine wpV_val hi (Region.noSelect_spec hs) (fun c a w => hQ c _ _ w) hb.1 n listed _ w (Down.of hb.2) (Region.free_spec hi hf) (by simpa using hr) (Or.inl ⟨hg, ?_⟩) hS (by rw [hd]; exact h (by rw [upF_set hb.1]; exact hS))
  rintro W ⟨L, hdn, hun, hSW⟩
  refine hy W _ hSW fun k hk hre => ?_
  unfold upF
  rw [hk, Bool.true_and]
  cases hL : L.getD k false with
  | false => rfl
  | true =>
    have := reachB_listed hdn 8 k hL hre
    rw [getD_both hun] at this
    cases this
/-- a store that alone may come up -/
theorem wpV_s (i : Nat) {o : Oper} {n : Nat} {listed : Array Bool} {a : Act} {w w' : World} (ho : ops[i]? = some o) (hd : o.dst = none) (hr : Region.ready md ops listed = [i]) (hg : o.guard = none)
    (hx : (execOp a.eval o).run P w = .ok .skip w') (hS : S (upF st (listed.setIfInBounds i true)) w') (h : wpV P md ops Q st S n (listed.setIfInBounds i true) a w') : wpV P md ops Q st S (n + 1) listed a w := by
  refine ⟨by rw [hr]; simp, fun j hj => ?_⟩
  rw [hr] at hj
  have : j = i := by simpa using hj
  subst this
  exact op_skip ho hd hg hx ⟨hS, h⟩
/-- the one operation that may come up -/
theorem wpV_1 (i : Nat) {n : Nat} {listed : Array Bool} {a : Act} {w : World} (hr : Region.ready md ops listed = [i])
    (h : wpOp P ops Q i (fun a' w' => S (upF st (listed.setIfInBounds i true)) w' ∧ wpV P md ops Q st S n (listed.setIfInBounds i true) a' w') a w) : wpV P md ops Q st S (n + 1) listed a w := by
  refine ⟨by rw [hr]; simp, fun j hj => ?_⟩
  rw [hr] at hj
  have : j = i := by simpa using hj
  subst this
  exact h
/-- two operations that may come up -/
theorem wpV_2 (i k : Nat) {n : Nat} {listed : Array Bool} {a : Act} {w : World} (hr : Region.ready md ops listed = [i, k])
    (h : wpOp P ops Q i (fun a' w' => S (upF st (listed.setIfInBounds i true)) w' ∧ wpV P md ops Q st S n (listed.setIfInBounds i true) a' w') a w)
    (h' : wpOp P ops Q k (fun a' w' => S (upF st (listed.setIfInBounds k true)) w' ∧ wpV P md ops Q st S n (listed.setIfInBounds k true) a' w') a w) : wpV P md ops Q st S (n + 1) listed a w := by
  refine ⟨by rw [hr]; simp, fun j hj => ?_⟩
  rw [hr] at hj
  have : j = i ∨ j = k := by simpa using hj
  rcases this with rfl | rfl
  · exact h
  · exact h'
theorem wpV_end {listed : Array Bool} {a : Act} {w : World} (hl : Region.ready md ops listed = []) (h : Q .normal a w) : wpV P md ops Q st S 0 listed a w := ⟨hl, h⟩
theorem wp_region_V {id : Nat} {a : Act} {w : World} (st : List Nat) (S : (Nat → Bool) → World → Prop) (n : Nat) (listed : Array Bool) (hm : P.follows .mixedOrders = true) (hn : n = ops.size) (hl : listed = Array.replicate ops.size false)
    (h : wpV P .any ops (NoPanic Q) st S n listed a w.drew) : (Code.region id ops true).wp P Q a w :=
  wp_region_noPanic (wp_region_any hm (by
    have := wpV.any n _ _ _ h
    rw [hn, hl] at this
    exact this))
end
end Go.Proofs.Ytopanbcodfkedaa
