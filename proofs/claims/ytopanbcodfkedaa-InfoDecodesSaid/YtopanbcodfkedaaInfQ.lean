/- The plain law of InfoShapes: the children of a root once more add no shape. -/
import Derived.Test.YtopanbcodfkedaaInfP
namespace Go.Proofs.Ytopanbcodfkedaa
open Go.RowKit
set_option linter.unusedVariables false
set_option linter.unusedSimpArgs false

def nextD : List Ent → Int → Int
  | [], n => n
  | e :: _, _ => e.depth
def shpL : List Ent → Int → List (List UInt8)
  | [], _ => []
  | e :: r, n => shapeB e (decide (e.depth < nextD r n)) :: shpL r n
def bytL (T : List (List UInt8)) : List Ent → Int → List UInt8
  | [], _ => []
  | e :: r, n => entB e ((T.idxOf (shapeB e (decide (e.depth < nextD r n))) : Int) + 1) (nextD r n) ++ bytL T r n
theorem headD_nextD (l : List Ent) : headD l = nextD l 0 := by cases l <;> rfl
theorem nextD_app (a b : List Ent) (n : Int) : nextD (a ++ b) n = nextD a (nextD b n) := by cases a <;> rfl
theorem shpL_app : ∀ (a b : List Ent) (n : Int), shpL (a ++ b) n = shpL a (nextD b n) ++ shpL b n
  | [], _, _ => rfl
  | e :: a, b, n => by simp only [List.cons_append, shpL, nextD_app, shpL_app a b n]
theorem bytL_app (T : List (List UInt8)) : ∀ (a b : List Ent) (n : Int), bytL T (a ++ b) n = bytL T a (nextD b n) ++ bytL T b n
  | [], _, _ => rfl
  | e :: a, b, n => by simp only [List.cons_append, bytL, nextD_app, bytL_app T a b n, List.append_assoc]
theorem addS_pre (S : List (List UInt8)) (s : List UInt8) : ∃ c, addS S s = S ++ c := by
  unfold addS
  split
  · exact ⟨[], by simp⟩
  · exact ⟨[s], rfl⟩
theorem fold_pre : ∀ (L S : List (List UInt8)), ∃ c, L.foldl addS S = S ++ c
  | [], S => ⟨[], by simp⟩
  | s :: L, S => by
    obtain ⟨c, hc⟩ := addS_pre S s
    obtain ⟨d, hd⟩ := fold_pre L (addS S s)
    exact ⟨c ++ d, by rw [List.foldl_cons, hd, hc, List.append_assoc]⟩
theorem mem_addS (S : List (List UInt8)) (s : List UInt8) : s ∈ addS S s := by unfold addS; split <;> simp [*]
theorem mem_fold : ∀ (L S : List (List UInt8)), ∀ s ∈ L, s ∈ L.foldl addS S
  | [], _, s, h => by simp at h
  | a :: L, S, s, h => by
    rw [List.foldl_cons]
    rcases List.mem_cons.1 h with h | h
    · subst h
      obtain ⟨c, hc⟩ := fold_pre L (addS S s)
      rw [hc]
      exact List.mem_append_left _ (mem_addS S s)
    · exact mem_fold L _ s h
theorem fold_same : ∀ (L S : List (List UInt8)), (∀ s ∈ L, s ∈ S) → L.foldl addS S = S
  | [], _, _ => rfl
  | a :: L, S, h => by
    have : addS S a = S := if_pos (h a (by simp))
    rw [List.foldl_cons, this]
    exact fold_same L S (fun s hs => h s (by simp [hs]))
theorem idx_pre {S : List (List UInt8)} {s : List UInt8} (c : List (List UInt8)) (h : s ∈ S) : (S ++ c).idxOf s = S.idxOf s := by
  rw [List.idxOf_append, if_pos h]
theorem encL_eq : ∀ (l : List Ent) (S : List (List UInt8)) (en : List UInt8), encL l (S, en) = ((shpL l 0).foldl addS S, en ++ bytL ((shpL l 0).foldl addS S) l 0)
  | [], S, en => by simp [encL, shpL, bytL]
  | e :: r, S, en => by
    have h := encL_eq r
    simp only [encL, stepE, headD_nextD, shpL, bytL, List.foldl_cons]
    rw [h]
    obtain ⟨c, hc⟩ := fold_pre (shpL r 0) (addS S (shapeB e (decide (e.depth < nextD r 0))))
    congr 1
    rw [List.append_assoc]
    congr 2
    rw [hc, idx_pre c (mem_addS _ _)]
theorem shpL_len : ∀ (l : List Ent) (n : Int), (shpL l n).length = l.length
  | [], _ => rfl
  | e :: r, n => by simp [shpL, shpL_len r n]
theorem fold_len : ∀ (L S : List (List UInt8)), (L.foldl addS S).length ≤ S.length + L.length
  | [], _ => by simp
  | a :: L, S => by
    have h1 := fold_len L (addS S a)
    have h2 := addS_len S a
    rw [List.foldl_cons, List.length_cons]
    omega
theorem fold_flat : ∀ (L S : List (List UInt8)), (∀ s ∈ L, s.length ≤ 270) → (L.foldl addS S).flatten.length ≤ S.flatten.length + 270 * L.length
  | [], _, _ => by simp
  | a :: L, S, h => by
    have h1 := fold_flat L (addS S a) (fun s hs => h s (by simp [hs]))
    have h2 := addS_flat S a
    have h3 := h a (by simp)
    rw [List.foldl_cons, List.length_cons]
    omega
theorem shpL_270 : ∀ (l : List Ent) (n : Int), (∀ e ∈ l, okAtts e.attrs ∧ 1 ≤ e.tag ∧ e.tag ≤ 63) → ∀ s ∈ shpL l n, s.length ≤ 270
  | [], _, _, s, h => by simp [shpL] at h
  | e :: r, n, hl, s, h => by
    rcases List.mem_cons.1 h with h | h
    · rw [h]
      exact shapeB_len _ (hl e (by simp)).1 (hl e (by simp)).2
    · exact shpL_270 r n (fun x hx => hl x (by simp [hx])) s h
/-- the last child's next is 0 or 1: the shapes are the same, the bytes one zero more -/
theorem shpL_01 : ∀ (l : List Ent), (∀ e ∈ l, 1 ≤ e.depth) → shpL l 1 = shpL l 0
  | [], _ => rfl
  | [e], h => by
    have := h e (by simp)
    have d1 : decide (e.depth < 1) = false := by simp; omega
    have d0 : decide (e.depth < 0) = false := by simp; omega
    show [shapeB e (decide (e.depth < 1))] = [shapeB e (decide (e.depth < 0))]
    rw [d1, d0]
  | e :: f :: r, h => by
    have := shpL_01 (f :: r) (fun x hx => h x (List.mem_cons_of_mem _ hx))
    rw [shpL, this]
    rfl
theorem entB_len1 {e : Ent} (n : Int) (h : 1 ≤ e.depth) : (entB e n 0).length = (entB e n 1).length + 1 := by
  unfold entB
  simp only [List.length_append, List.length_replicate]
  omega
theorem bytL_01 (T : List (List UInt8)) : ∀ (l : List Ent), l ≠ [] → (∀ e ∈ l, 1 ≤ e.depth) → (bytL T l 0).length = (bytL T l 1).length + 1
  | [], h, _ => absurd rfl h
  | [e], _, h => by
    have h1 := h e (by simp)
    have d1 : decide (e.depth < 1) = false := by simp; omega
    have d0 : decide (e.depth < 0) = false := by simp; omega
    show (entB e (((T.idxOf (shapeB e (decide (e.depth < 0))) : Nat) : Int) + 1) 0 ++ []).length = (entB e (((T.idxOf (shapeB e (decide (e.depth < 1))) : Nat) : Int) + 1) 1 ++ []).length + 1
    rw [d1, d0, List.append_nil, List.append_nil]
    exact entB_len1 _ h1
  | e :: f :: r, _, h => by
    have := bytL_01 T (f :: r) (by simp) (fun x hx => h x (List.mem_cons_of_mem _ hx))
    show (entB e _ f.depth ++ bytL T (f :: r) 0).length = (entB e _ f.depth ++ bytL T (f :: r) 1).length + 1
    rw [List.length_append, List.length_append, this]
    rfl
/-- a list k times -/
def rep {α : Type} (c : List α) : Nat → List α
  | 0 => []
  | k + 1 => c ++ rep c k
theorem rep_len {α : Type} (c : List α) (k : Nat) : (rep c k).length = k * c.length := by
  induction k with
  | zero => simp [rep]
  | succ k ih => rw [rep, List.length_append, ih, Nat.succ_mul]; omega
theorem rep_succ' {α : Type} (c : List α) (k : Nat) : rep c (k + 1) = rep c k ++ c := by
  induction k with
  | zero => simp [rep]
  | succ k ih =>
    show c ++ rep c (k + 1) = (c ++ rep c k) ++ c
    rw [ih, List.append_assoc]
theorem rep_map {α β : Type} (f : α → β) (c : List α) (k : Nat) : (rep c k).map f = rep (c.map f) k := by
  induction k with
  | zero => rfl
  | succ k ih => rw [rep, List.map_append, ih]; rfl
theorem rep_mem {α : Type} {c : List α} {k : Nat} {e : α} (h : e ∈ rep c k) : e ∈ c := by
  induction k with
  | zero => simp [rep] at h
  | succ k ih => rcases List.mem_append.1 h with h | h; exact h; exact ih h
theorem rep_nextD {c : List Ent} {d : Int} (hc : nextD c d = 1) (hne : c ≠ []) {k : Nat} (hk : 1 ≤ k) (n : Int) : nextD (rep c k) n = 1 := by
  obtain ⟨j, rfl⟩ : ∃ j, k = j + 1 := ⟨k - 1, by omega⟩
  rw [rep, nextD_app]
  cases c with
  | nil => exact absurd rfl hne
  | cons => exact hc
theorem shpL_rep {c : List Ent} (h1 : ∀ e ∈ c, 1 ≤ e.depth) (hh : nextD c 1 = 1) (hne : c ≠ []) : ∀ k, ∀ s ∈ shpL (rep c k) 0, s ∈ shpL c 0
  | 0, s, h => by simp [rep, shpL] at h
  | k + 1, s, h => by
    rw [rep, shpL_app] at h
    rcases List.mem_append.1 h with h | h
    · by_cases hk : 1 ≤ k
      · rw [rep_nextD hh hne hk, shpL_01 c h1] at h; exact h
      · have : k = 0 := by omega
        subst this
        exact h
    · exact shpL_rep h1 hh hne k s h
theorem bytL_rep (T : List (List UInt8)) {c : List Ent} (h1 : ∀ e ∈ c, 1 ≤ e.depth) (hh : nextD c 1 = 1) (hne : c ≠ []) : ∀ k, (bytL T (rep c (k + 1)) 0).length = (k + 1) * (bytL T c 1).length + 1
  | 0 => by
    rw [rep, rep, List.append_nil, bytL_01 T c hne h1]
    omega
  | k + 1 => by
    rw [rep, bytL_app, rep_nextD hh hne (by omega), List.length_append, bytL_rep T h1 hh hne k]
    rw [Nat.succ_mul (k + 1)]
    omega
theorem flat_valB : ∀ (l : List Att), (∀ a ∈ l, okAtt a ∧ a.I) → (l.flatMap valB).length ≤ 50 * l.length
  | [], _ => by simp
  | a :: l, h => by
    have h1 := flat_valB l (fun x hx => h x (by simp [hx]))
    have h2 := valB_len (h a (by simp)).1 (h a (by simp)).2
    rw [List.flatMap_cons, List.length_append, List.length_cons]
    omega
theorem TG.okAtts {l : List Ent} (h : TG l) : ∀ e ∈ l, okAtts e.attrs ∧ 1 ≤ e.tag ∧ e.tag ≤ 63 := fun e he => by
  obtain ⟨i, hi, rfl⟩ := List.getElem_of_mem he
  have := h.right.2 i hi
  exact ⟨this.2.2, this.2.1⟩
theorem nextD_ge {l : List Ent} {n : Int} (h : ∀ e ∈ l, 0 ≤ e.depth) (hn : 0 ≤ n) : 0 ≤ nextD l n := by
  cases l with
  | nil => exact hn
  | cons e r => exact h e (by simp)
theorem bytL_len (T : List (List UInt8)) (hT : T.length ≤ 1000) : ∀ (l : List Ent) (n : Int), 0 ≤ n → (∀ e ∈ l, (0 ≤ e.depth ∧ e.depth ≤ 6) ∧ e.attrs.length ≤ 3 ∧ ∀ a ∈ e.attrs, okAtt a ∧ a.I) → (bytL T l n).length ≤ 166 * l.length
  | [], _, _, _ => by simp [bytL]
  | e :: r, n, hn, h => by
    have h1 := bytL_len T hT r n hn (fun x hx => h x (by simp [hx]))
    obtain ⟨h2, h3, h4⟩ := h e (by simp)
    have h5 := flat_valB e.attrs h4
    have h6 := nextD_ge (l := r) (n := n) (fun x hx => (h x (by simp [hx])).1.1) hn
    have h7 := List.idxOf_le_length (a := shapeB e (decide (e.depth < nextD r n))) (l := T)
    have h8 := uintB_len (v := (T.idxOf (shapeB e (decide (e.depth < nextD r n))) : Int) + 1) (by omega)
    rw [bytL, List.length_append, List.length_cons]
    unfold entB
    simp only [List.length_append, List.length_replicate]
    omega
theorem TG.all {l : List Ent} (h : TG l) : ∀ e ∈ l, (0 ≤ e.depth ∧ e.depth ≤ 6) ∧ e.attrs.length ≤ 3 ∧ ∀ a ∈ e.attrs, okAtt a ∧ a.I := fun e he =>
  ⟨h.flat e he, h.few e he, fun a ha => ⟨(h.okAtts e he).1.2.1 a ha, (h.int e he).attrs a ha⟩⟩
theorem EncE_few {l : List Ent} (h : TG l) (hl : l.length ≤ 200) {T : List (List UInt8)} (hT : (shpL l 0).foldl addS [] = T) (h1 : T.length ≤ 200) (h2 : T.flatten.length ≤ 60000) : EncE l = (T.flatten, bytL T l 0) := by
  have h3 := bytL_len T (by omega) l 0 (by omega) h.all
  have h4 := encL_eq l [] []
  rw [hT] at h4
  unfold EncE
  rw [if_pos h.right, h4]
  simp only [List.nil_append]
  rw [if_neg (by omega)]
theorem TG.more {y ch : List Ent} (hy : TG y) (hch : ∀ j (h : j < ch.length), okEnt (⟨0, 1, []⟩ :: ch.take j) ch[j]) (ho : ∀ e ∈ ch, e.I ∧ e.attrs.length ≤ 3 ∧ 0 ≤ e.depth ∧ e.depth ≤ 6) (hl : y.length + ch.length ≤ 4000) : ∀ j, j ≤ ch.length → TG (y ++ ch.take j)
  | 0, _ => by simpa using hy
  | j + 1, hj => by
    have h1 := TG.more hy hch ho hl j (by omega)
    have hjl : j < ch.length := by omega
    rw [List.take_succ_eq_append_getElem hjl, ← List.append_assoc]
    obtain ⟨h2, h3, h4⟩ := ho _ (List.getElem_mem hjl)
    refine h1.push ?_ h2 h3 h4 (by rw [List.length_append, List.length_take]; omega)
    obtain ⟨hd, ht⟩ := hch j hjl
    refine ⟨?_, ht⟩
    rw [List.getLast?_cons] at hd
    rw [List.getLast?_append]
    generalize (ch.take j).getLast? = g at *
    cases g with
    | some z => exact hd
    | none =>
      obtain ⟨c, hc⟩ := hy.root
      simp only [Option.getD_none] at hd
      rcases hg : y.getLast? with _ | z
      · rw [hc] at hg; simp at hg
      · have hz := hy.flat z (List.mem_of_getLast? hg)
        simp only [Option.none_or]
        omega
theorem TG.rep {t ch : List Ent} (ht : TG t) (hc : t = ⟨0, 1, []⟩ :: ch) (hl : t.length ≤ 31) (k : Nat) (hk : k ≤ 4) : TG (t ++ rep ch k) := by
  induction k with
  | zero => simpa [Go.Proofs.Ytopanbcodfkedaa.rep] using ht
  | succ k ih =>
    rw [rep_succ', ← List.append_assoc]
    have hcl : ch.length ≤ 30 := by rw [hc] at hl; simp only [List.length_cons] at hl; omega
    have := TG.more (ih (by omega)) (ch := ch) (fun j hj => by
      have h := ht.right.2 (j + 1) (by rw [hc]; simp only [List.length_cons]; omega)
      simpa [hc] using h) (fun e he => by
      have hm : e ∈ t := by rw [hc]; exact List.mem_cons_of_mem _ he
      exact ⟨ht.int e hm, ht.few e hm, ht.flat e hm⟩) (by
      rw [List.length_append, rep_len]
      have : k * ch.length ≤ 4 * 30 := Nat.mul_le_mul (by omega) hcl
      omega) ch.length (by omega)
    simpa using this
theorem rep_nil {α : Type} (k : Nat) : rep ([] : List α) k = [] := by
  induction k with
  | zero => rfl
  | succ k ih => rw [rep, ih]; rfl
theorem bytL_root (c : List (List UInt8)) {ch : List Ent} {n : Int} (h : 0 ≤ nextD ch n) : bytL (shapeB ⟨0, 1, []⟩ (decide ((0 : Int) < nextD ch n)) :: c) (⟨0, 1, []⟩ :: ch) n = 1 :: bytL (shapeB ⟨0, 1, []⟩ (decide ((0 : Int) < nextD ch n)) :: c) ch n := by
  rw [bytL]
  simp only [List.idxOf_cons_self]
  have : (entB ⟨0, 1, []⟩ (((0 : Nat) : Int) + 1) (nextD ch n)) = [1] := by
    unfold entB
    have : (0 - nextD ch n).toNat = 0 := by omega
    rw [this]
    simp [uintB, leb]
  rw [this]
  rfl
/-- the law -/
theorem shapes_law {t ch : List Ent} (ht : TG t) (hl : t.length ≤ 31) (hc : t = ⟨0, 1, []⟩ :: ch) {k : Nat} (hk1 : 1 ≤ k) (hk : k ≤ 4) :
    TG (t ++ rep ch k) ∧ (EncE (t ++ rep ch k)).1 = (EncE t).1 ∧ (EncE t).1.length ≤ 60000 ∧ (1 ≤ (EncE t).2.length ∧ (EncE t).2.length ≤ 60000) ∧ (EncE (t ++ rep ch k)).2.length ≤ 60000 ∧
    ((EncE (t ++ rep ch k)).2.length : Int) = (EncE t).2.length + (k : Int) * (((EncE t).2.length : Int) - 2 + if t.length = 1 then 1 else 0) := by
  have hx := ht.rep hc hl k hk
  have hcl : ch.length ≤ 30 := by rw [hc] at hl; simp only [List.length_cons] at hl; omega
  obtain ⟨T, hT⟩ : ∃ T, (shpL t 0).foldl addS [] = T := ⟨_, rfl⟩
  have hT1 : T.length ≤ 31 := by
    have := fold_len (shpL t 0) []
    rw [hT, shpL_len] at this
    simp only [List.length_nil] at this
    omega
  have hT2 : T.flatten.length ≤ 60000 := by
    have := fold_flat (shpL t 0) [] (shpL_270 t 0 ht.okAtts)
    rw [hT, shpL_len] at this
    simp only [List.flatten_nil, List.length_nil] at this
    omega
  have hE := EncE_few ht (by omega) hT (by omega) hT2
  have hxl : (t ++ rep ch k).length ≤ 200 := by
    rw [List.length_append, rep_len]
    have : k * ch.length ≤ 4 * 30 := Nat.mul_le_mul (by omega) hcl
    omega
  by_cases hne : ch = []
  · subst hne
    rw [rep_nil, List.append_nil]
    rw [hE]
    have e1 : (bytL T t 0).length = 1 := by
      rw [hc, shpL, shpL] at hT
      rw [hc, ← hT]
      simp only [List.foldl_cons, List.foldl_nil]
      have : addS [] (shapeB ⟨0, 1, []⟩ (decide ((0 : Int) < nextD [] 0))) = shapeB ⟨0, 1, []⟩ (decide ((0 : Int) < nextD [] 0)) :: [] := by simp [addS]
      rw [this, bytL_root [] (by simp [nextD])]
      rfl
    simp only [e1]
    refine ⟨ht, trivial, hT2, by omega, by omega, ?_⟩
    rw [if_pos (by rw [hc]; rfl)]
    omega
  · have hd1 : ∀ e ∈ ch, 1 ≤ e.depth := fun e he => by
      obtain ⟨i, hi, rfl⟩ := List.getElem_of_mem he
      have h := ht.right.2 (i + 1) (by rw [hc]; simp only [List.length_cons]; omega)
      have h2 : okEnt (⟨0, 1, []⟩ :: ch.take i) ch[i] := by simpa [hc] using h
      have h3 := h2.1
      rw [List.getLast?_cons] at h3
      exact h3.1
    have hh : nextD ch 1 = 1 := by
      obtain ⟨a, r, rfl⟩ : ∃ a r, ch = a :: r := by
        cases ch with
        | nil => exact absurd rfl hne
        | cons a r => exact ⟨a, r, rfl⟩
      have h := ht.right.2 1 (by rw [hc]; simp)
      have h2 : okEnt [⟨0, 1, []⟩] a := by simpa [hc] using h
      have h3 := h2.1
      simp only [List.getLast?_singleton] at h3
      show a.depth = 1
      omega
    have hh0 : nextD ch 0 = 1 := by
      obtain ⟨a, r, rfl⟩ : ∃ a r, ch = a :: r := by
        cases ch with
        | nil => exact absurd rfl hne
        | cons a r => exact ⟨a, r, rfl⟩
      exact hh
    obtain ⟨j, rfl⟩ : ∃ j, k = j + 1 := ⟨k - 1, by omega⟩
    have hn : nextD (rep ch (j + 1)) 0 = 1 := rep_nextD hh hne (by omega) 0
    have hs1 : shpL t 1 = shpL t 0 := by
      rw [hc, shpL, shpL, hh, hh0, shpL_01 ch hd1]
    have hTx : (shpL (t ++ rep ch (j + 1)) 0).foldl addS [] = T := by
      rw [shpL_app, hn, hs1, List.foldl_append, hT]
      refine fold_same _ _ (fun s hs => ?_)
      have := shpL_rep hd1 hh hne (j + 1) s hs
      rw [← hT]
      refine mem_fold _ _ s ?_
      rw [hc, shpL]
      exact List.mem_cons_of_mem _ this
    have hEx := EncE_few hx hxl hTx (by omega) hT2
    rw [hE, hEx]
    obtain ⟨c, hc2⟩ : ∃ c, T = shapeB ⟨0, 1, []⟩ (decide ((0 : Int) < nextD ch 0)) :: c := by
      rw [hc, shpL] at hT
      obtain ⟨c, hc2⟩ := fold_pre (shpL ch 0) (addS [] (shapeB ⟨0, 1, []⟩ (decide ((0 : Int) < nextD ch 0))))
      rw [List.foldl_cons, hc2] at hT
      refine ⟨c, ?_⟩
      rw [← hT]
      simp [addS]
    have e0 : (bytL T t 0).length = 1 + (bytL T ch 0).length := by
      rw [hc, hc2, bytL_root c (by omega)]
      simp only [List.length_cons]
      omega
    have e1 : (bytL T t 1).length = 1 + (bytL T ch 1).length := by
      have hc3 : T = shapeB ⟨0, 1, []⟩ (decide ((0 : Int) < nextD ch 1)) :: c := by rw [hc2, hh0, hh]
      rw [hc, hc3, bytL_root c (by omega)]
      simp only [List.length_cons]
      omega
    have e2 := bytL_01 T ch hne hd1
    have e3 := bytL_rep T hd1 hh hne j
    have e4 : (bytL T (t ++ rep ch (j + 1)) 0).length = (bytL T t 1).length + (bytL T (rep ch (j + 1)) 0).length := by
      rw [bytL_app, hn, List.length_append]
    have b0 := bytL_len T (by omega) t 0 (by omega) ht.all
    have bx := bytL_len T (by omega) (t ++ rep ch (j + 1)) 0 (by omega) hx.all
    refine ⟨hx, rfl, hT2, ⟨by simp only; omega, by simp only; omega⟩, by simp only; omega, ?_⟩
    have hcl0 : ch.length ≠ 0 := fun e => hne (List.length_eq_zero_iff.1 e)
    rw [if_neg (by rw [hc]; simp only [List.length_cons]; omega)]
    simp only
    rw [e4, e1, e3, e0, e2]
    push_cast
    generalize ((bytL T ch 1).length : Int) = L
    have : (1 : Int) + (L + 1) - 2 + 0 = L := by omega
    rw [this]
    omega
end Go.Proofs.Ytopanbcodfkedaa
