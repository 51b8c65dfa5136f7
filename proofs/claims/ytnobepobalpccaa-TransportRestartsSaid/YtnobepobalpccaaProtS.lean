/- The beginning of the walks of the protocol, and what holds at the heads of their loops. -/
import Derived.Test.YtnobepobalpccaaProtJ
import Derived.Test.YtnobepobalpccaaProtZ
import Derived.Test.YtnobepobalpccaaTraH
namespace Go.Proofs.Ytnobepobalpccaa
open Go.RowKit
set_option linter.unusedVariables false

theorem fates_st {w W : World} {y : Value} {zs : List (Fate × Value)} {xs : List Nat} {b0 : Nat} (h1 : OwnR fateCells 3 44 b0 w y zs) (h2 : ∀ z ∈ zs, OwnV iv 3 b0 w z.2 z.1.delays) (he : Ext w W) (hx : ∀ x ∈ xs, x < b0 ∨ w.heap.size ≤ x) : St xs W (fun W' => FatesIn W' y (zs.map Prod.fst)) := fun W' hk => by
  have a1 := St.ownR (xs := xs) (h1.ext he) (fun x hm e => by have := h1.lt x e; have := h1.ge x e; have := hx x hm; omega) W' hk
  refine ⟨zs, rfl, a1.inR, fun z hz => ?_⟩
  have a2 := St.ownV (xs := xs) ((h2 z hz).ext he) (fun x hm e => by have := (h2 z hz).lt x e; have := (h2 z hz).ge x e; have := hx x hm; omega) W' hk
  exact a2.inV
def newS (n : Int) (fs : List Fate) : SD := ⟨newE n, [], fs, 0, [], 0⟩
theorem SdIn.new {xs : List Nat} {W : World} {b : Nat} {n : Int} {fs : List Fate} {ftv : Value} (hb : W.heap[b]? = some (.cells (sdCells (newE n) (.slice none 0 0) (.slice none 0 0) ftv 0 (.slice none 0 0) 0) 34 (0, 0))) (hf : St xs W (fun W' => FatesIn W' ftv fs)) : SdIn xs W b (newS n fs) (.slice none 0 0) :=
  ⟨none, 0, none, 0, ftv, [], hb, fun W' _ => QIn.nil W', rfl, fun W' _ => InR.nil W', by simp, hf⟩
theorem newS_LS {n : Int} {fs : List Fate} (hn : 1 ≤ n ∧ n ≤ 20) (hf : ∀ f ∈ fs, f.OK) (k m : Nat) : (newS n fs).LS k m :=
  ⟨⟨hn, by simp [newS, newE], newE_cons n, by simp [newS, newE], by simp [newS, newE], by simp [newS, newE], by simp [newS, newE]⟩, by simp [newS], by simp [newS], hf, ⟨by simp [newS], by simp [newS]⟩, by simp [newS, newE], by simp [newS, newE]⟩
theorem push_small (e : EP) (h : e.queue.length < 1000) (x : List UInt8) (hx : x.length ≤ 10) : pushF e x = (⟨e.epoch, e.peer, e.acked, e.sent, e.got, e.timer, e.queue ++ [x], e.owe⟩, 0) := by
  rw [pushF, if_neg (by omega), if_neg (by omega)]
/-- two new sides -/
theorem XSt.begin {w w2 w5 W : World} {n m : Int} {Ya Yb : Value} {za zb : List (Fate × Value)} {b0 b1 : Nat} (hoa : OwnR fateCells 3 44 b0 w2 Ya za) (hda : ∀ z ∈ za, OwnV iv 3 b0 w2 z.2 z.1.delays) (hob : OwnR fateCells 3 44 b1 w5 Yb zb) (hdb : ∀ z ∈ zb, OwnV iv 3 b1 w5 z.2 z.1.delays)
    (hBa : W.heap[w2.heap.size]? = some (.cells (sdCells (newE n) (.slice none 0 0) (.slice none 0 0) Ya 0 (.slice none 0 0) 0) 34 (0, 0))) (hBb : W.heap[w5.heap.size]? = some (.cells (sdCells (newE m) (.slice none 0 0) (.slice none 0 0) Yb 0 (.slice none 0 0) 0) 34 (0, 0))) (h2 : Ext w2 W) (h5 : Ext w5 W) (hlt : w2.heap.size < w5.heap.size) (hb1 : w2.heap.size < b1) (hw : w.heap.size ≤ w2.heap.size) (hE : Ext w W) :
    XSt [] w W w2.heap.size w5.heap.size (newS n (za.map Prod.fst)) (newS m (zb.map Prod.fst)) (.slice none 0 0) (.slice none 0 0) := by
  have hxs : ∀ x ∈ xsOf [] w2.heap.size w5.heap.size (.slice none 0 0) (.slice none 0 0), x = w2.heap.size ∨ x = w5.heap.size := fun x hx => by
    rw [mem_xs] at hx
    rcases hx with h | h | h | h | h
    · exact .inl h
    · exact .inr h
    · cases h
    · cases h
    · cases h
  exact ⟨SdIn.new hBa (fates_st hoa hda h2 (fun x hx => by rcases hxs x hx with rfl | rfl <;> exact .inr (by omega))), SdIn.new hBb (fates_st hob hdb h5 (fun x hx => by rcases hxs x hx with rfl | rfl <;> omega)), by omega, OwnV.nil _, OwnV.nil _, (fun k h => by cases h), hw, Nat.le_trans hw (by omega), hE, fun x hx => by cases hx⟩

def bes (u v : Value) : List Nat := u.ownBlock.toList ++ v.ownBlock.toList
theorem mem_bes {u v : Value} {x : Nat} : x ∈ bes u v ↔ u.ownBlock = some x ∨ v.ownBlock = some x := by simp only [bes, List.mem_append, Option.mem_toList]
/-- two sides, and what is wanted at either -/
structure DSt (w0 W : World) (ba bb : Nat) (a b : SD) (ga gb vA vB : Value) (wA wB : List UInt8) : Prop where
  x : XSt (bes vA vB) w0 W ba bb a b ga gb
  oa : OwnV bv 5 w0.heap.size W vA wA
  ob : OwnV bv 5 w0.heap.size W vB wB
  ne : ∀ k, vA.ownBlock = some k → vB.ownBlock ≠ some k
section
variable {w0 W W' : World} {ba bb : Nat} {a b a' b' : SD} {ga gb ga' gb' vA vB : Value} {wA wB : List UInt8}
theorem DSt.symm (h : DSt w0 W ba bb a b ga gb vA vB wA wB) : DSt w0 W bb ba b a gb ga vB vA wB wA := by
  refine ⟨?_, h.ob, h.oa, fun k h1 h2 => h.ne k h2 h1⟩
  refine h.x.symm.aside (Kept.refl _ _ _) h.x.ext fun y hy => ?_
  rw [mem_bes] at hy
  have hm : y ∈ bes vA vB := by rw [mem_bes]; exact hy.symm
  exact ⟨.inl hm, (h.x.beside y hm).2.1⟩
theorem DSt.extW (h : DSt w0 W ba bb a b ga gb vA vB wA wB) (hx : Ext W W') : DSt w0 W' ba bb a b ga gb vA vB wA wB := ⟨h.x.extW hx, h.oa.ext hx, h.ob.ext hx, h.ne⟩
theorem DSt.put (h : DSt w0 W ba bb a b ga gb vA vB wA wB) (hg : W.grownBy W' (some ba)) (hX : XSt (bes vA vB) w0 W' ba bb a' b ga gb) : DSt w0 W' ba bb a' b ga gb vA vB wA wB := by
  refine ⟨hX, h.oa.kept hg (.inr fun e => ?_), h.ob.kept hg (.inr fun e => ?_), h.ne⟩
  · exact (h.x.beside ba (by rw [mem_bes]; exact .inl e)).2.2.1 rfl
  · exact (h.x.beside ba (by rw [mem_bes]; exact .inr e)).2.2.1 rfl
theorem DSt.exch (h : DSt w0 W ba bb a b ga gb vA vB wA wB) (hX : XSt (bes vA vB) w0 W' ba bb a' b' ga' gb') (hk : Kept W.heap.size (xsOf [] ba bb ga gb) W W') : DSt w0 W' ba bb a' b' ga' gb' vA vB wA wB := by
  have hn : ∀ x ∈ xsOf [] ba bb ga gb, x ∉ bes vA vB := fun x hx hm => by
    obtain ⟨b1, b2, b3, b4, b5, b6⟩ := h.x.beside x hm
    rw [mem_xs] at hx
    rcases hx with e | e | e | e | e
    · exact b3 e
    · exact b4 e
    · exact b5 e
    · exact b6 e
    · cases e
  exact ⟨hX, St.ownV h.oa (fun x hx e => hn x hx (by rw [mem_bes]; exact .inl e)) W' hk, St.ownV h.ob (fun x hx e => hn x hx (by rw [mem_bes]; exact .inr e)) W' hk, h.ne⟩
/-- what is wanted at the second end has grown -/
theorem DSt.want {v' : Value} {wB' : List UInt8} (h : DSt w0 W ba bb a b ga gb vA vB wA wB) (ho : OwnV bv 5 w0.heap.size W' v' wB') (hg : Grew W W' vB v') : DSt w0 W' ba bb a b ga gb vA v' wA wB' := by
  have hn : ∀ k, vA.ownBlock = some k → v'.ownBlock ≠ some k := fun k hk e => by
    rcases hg.lies with e2 | ⟨g, e2, hg2⟩
    · exact h.ne k hk (e2 ▸ e)
    · rw [e2] at e
      injection e with e
      have := h.oa.lt k hk
      omega
  refine ⟨?_, h.oa.kept hg.grown (by
    cases e : vA.ownBlock with
    | none => exact .inl rfl
    | some k => exact .inr fun e2 => h.ne k e e2.symm), ho, hn⟩
  have hk : Kept W.heap.size (bes vA vB) W W' := Kept.of_grown hg.grown (Nat.le_refl _) (fun k e => .inr (by rw [mem_bes]; exact .inr e))
  refine h.x.aside hk (hg.ext h.x.ext h.ob.ge) fun y hy => ?_
  rw [mem_bes] at hy
  rcases hy with e | e
  · have hm : y ∈ bes vA vB := by rw [mem_bes]; exact .inl e
    exact ⟨.inl hm, Nat.lt_of_lt_of_le (h.x.beside y hm).2.1 hg.grown.size⟩
  · refine ⟨?_, ho.lt y e⟩
    rcases hg.lies with e2 | ⟨g, e2, hg2⟩
    · exact .inl (by rw [mem_bes]; exact .inr (e2 ▸ e))
    · rw [e2] at e
      injection e with e
      exact .inr (by omega)
end
/-- what holds at the head of the loop (T ticks have passed), and ahead of an exchange (N messages may have been pushed) -/
structure DPl (T N : Nat) (a b : SD) (P Q : List (List UInt8)) : Prop where
  two : Two P Q a b
  fit : Fit T a b
  la : a.LS (10 * T) (5 * T)
  lb : b.LS (10 * T) (5 * T)
  count : P.length + Q.length ≤ N ∧ N ≤ 40
  lenP : P.flatten.length ≤ 2 * N
  lenQ : Q.flatten.length ≤ 2 * N
  prog : T ≤ 40 ∨ (¬ Done a b ∧ Prog 41 T a b)
theorem Fit.symm {now : Int} {a b : SD} (h : Fit now a b) : Fit now b a := ⟨h.tb, h.ta, h.rb, h.ra⟩
theorem Prog.symm {T0 now : Int} {a b : SD} (h : Prog T0 now a b) : Prog T0 now b a := by
  obtain ⟨c, hp, hc⟩ := h
  exact ⟨c, hp.symm, by rw [GG_symm]; exact hc⟩
theorem DPl.symm {T N : Nat} {a b : SD} {P Q : List (List UInt8)} (h : DPl T N a b P Q) : DPl T N b a Q P :=
  ⟨h.two.symm, h.fit.symm, h.lb, h.la, by have := h.count; omega, h.lenQ, h.lenP, h.prog.imp id fun ⟨h1, h2⟩ => ⟨fun ⟨d1, d2, d3, d4⟩ => h1 ⟨d2, d1, d4, d3⟩, h2.symm⟩⟩
theorem DPl.push {T N : Nat} {a b : SD} {P Q : List (List UInt8)} (h : DPl T N a b P Q) {c : List UInt8} (hc : c.length ≤ 2) (hT : T < 40) (hN : N < 40) : DPl T (N + 1) (a.push c) b (P ++ [c]) Q := by
  have h1 := h.two.fw.queue
  have h2 := h.two.fw.low
  have h3 := h.two.fw.gotn
  have h4 := h.count
  have h5 := h.lenP
  have h6 := h.lenQ
  refine ⟨h.two.push c, ⟨⟨h.fit.ta.win, h.fit.ta.timer, h.fit.ta.lo, h.fit.ta.hi⟩, h.fit.tb, ⟨h.fit.ra.fates, h.fit.ra.sent⟩, h.fit.rb⟩, h.la.push (by omega) ?_, h.lb, by simp; omega, by have e : (P ++ [c]).flatten.length = P.flatten.length + c.length := (by simp); omega, by omega, .inl (by omega)⟩
  rw [h1, List.length_drop]
  omega
theorem DPl.more {T N M : Nat} {a b : SD} {P Q : List (List UInt8)} (h : DPl T N a b P Q) (hM : N ≤ M ∧ M ≤ 40) : DPl T M a b P Q :=
  ⟨h.two, h.fit, h.la, h.lb, by have := h.count; omega, by have := h.lenP; omega, by have := h.lenQ; omega, h.prog⟩
theorem DPl.exch {T N : Nat} {a b a' b' : SD} {P Q : List (List UInt8)} (h : DPl T N a b P Q) (hT : T < 3000) (hx : Exch T a b a' b') (hd : 40 ≤ T → ¬ Done a' b') : DPl (T + 1) N a' b' P Q := by
  obtain ⟨l1, l2⟩ := h.la.exch h.lb (by omega) hx
  have t2 := h.two.exch h.la h.lb hx
  have f2 := h.fit.exch (by omega) h.la h.lb hx
  refine ⟨t2, f2, l1.more (by omega) (by omega), l2.more (by omega) (by omega), h.count, h.lenP, h.lenQ, ?_⟩
  by_cases h40 : T + 1 ≤ 40
  · exact .inl h40
  · refine .inr ⟨hd (by omega), ?_⟩
    rcases h.prog with h1 | ⟨h1, h2⟩
    · obtain rfl : T = 40 := by omega
      exact Prog.start t2 f2.ra f2.rb (hd (by omega))
    · exact h2.step h.two h.la h.lb h.fit hx (hd (by omega))
/-- so long it never lasts -/
theorem DPl.short {T N : Nat} {a b : SD} {P Q : List (List UInt8)} (h : DPl T N a b P Q) : T < 3000 := by
  rcases h.prog with h1 | ⟨h1, h2⟩
  · omega
  · have := h2.bound h.two
    have := h.count
    omega
theorem newS_tk (n : Int) (fs : List Fate) : Tk 0 (newS n fs) := ⟨by simp [newS, newE], by simp [newS, newE], by simp [newS], by simp [newS]⟩
theorem new_fit {n m : Int} {fa fb : List Fate} (ha : fa.length ≤ 60) (hb : fb.length ≤ 60) : Fit 0 (newS n fa) (newS m fb) := ⟨newS_tk n fa, newS_tk m fb, ⟨ha, by simp [newS]⟩, ⟨hb, by simp [newS]⟩⟩
theorem DPl.new {n m : Int} {fa fb : List Fate} (hn : 1 ≤ n ∧ n ≤ 20) (hm : 1 ≤ m ∧ m ≤ 20) (ha : fa.length ≤ 60) (hb : fb.length ≤ 60) (ka : ∀ f ∈ fa, f.OK) (kb : ∀ f ∈ fb, f.OK) : DPl 0 0 (newS n fa) (newS m fb) [] [] :=
  ⟨Two.new fa fb hn.1 hm.1, new_fit ha hb, newS_LS hn ka _ _, newS_LS hm kb _ _, by simp, by simp, by simp, .inl (by omega)⟩
end Go.Proofs.Ytnobepobalpccaa
