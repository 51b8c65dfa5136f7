/- Sides of a connection in memory. -/
import Derived.Test.YtnobepobalpccaaProtE
import Derived.Test.YtnobepobalpccaaProtF
namespace Go.Proofs.Ytnobepobalpccaa
open Go.RowKit
set_option linter.unusedVariables false

/-- one end of a connection -/
structure SD where
  e : EP
  fl : List (Int × List UInt8)
  fates : List Fate
  sent : Int
  got : List UInt8
  resets : Int
def sdCells (e : EP) (yq flv ftv : Value) (sent : Int) (gv : Value) (resets : Int) : Array Value := #[.int .i64 e.epoch, .int .i64 e.peer, .int .i64 e.acked, .int .i64 e.sent, .int .i64 e.got, .int .i64 e.timer, yq, .bool e.owe, flv, ftv, .int .i64 sent, gv, .int .i64 resets]
section
variable {w : World} {b : Nat} {e : EP} {yq flv ftv gv : Value} {sent resets : Int}
theorem sd_at (H : w.heap[b]? = some (.cells (sdCells e yq flv ftv sent gv resets) 34 (0, 0))) :
    w.cell? ⟨b, 8, none⟩ = some flv ∧ w.cell? ⟨b, 9, none⟩ = some ftv ∧ w.cell? ⟨b, 10, none⟩ = some (.int .i64 sent) ∧ w.cell? ⟨b, 11, none⟩ = some gv ∧ w.cell? ⟨b, 12, none⟩ = some (.int .i64 resets) :=
  ⟨blk_at H 8 _ rfl, blk_at H 9 _ rfl, blk_at H 10 _ rfl, blk_at H 11 _ rfl, blk_at H 12 _ rfl⟩
theorem sd_ep (H : w.heap[b]? = some (.cells (sdCells e yq flv ftv sent gv resets) 34 (0, 0))) :
    w.cell? ⟨b, 0, none⟩ = some (.int .i64 e.epoch) ∧ w.cell? ⟨b, 1, none⟩ = some (.int .i64 e.peer) ∧ w.cell? ⟨b, 2, none⟩ = some (.int .i64 e.acked) ∧ w.cell? ⟨b, 3, none⟩ = some (.int .i64 e.sent) ∧ w.cell? ⟨b, 4, none⟩ = some (.int .i64 e.got) ∧ w.cell? ⟨b, 5, none⟩ = some (.int .i64 e.timer) ∧ w.cell? ⟨b, 6, none⟩ = some yq ∧ w.cell? ⟨b, 7, none⟩ = some (.bool e.owe) :=
  ⟨blk_at H 0 _ rfl, blk_at H 1 _ rfl, blk_at H 2 _ rfl, blk_at H 3 _ rfl, blk_at H 4 _ rfl, blk_at H 5 _ rfl, blk_at H 6 _ rfl, blk_at H 7 _ rfl⟩
theorem sd_load (H : w.heap[b]? = some (.cells (sdCells e yq flv ftv sent gv resets) 34 (0, 0))) :
    (Instr.loadAt 26 (.pointer (some ⟨b, 0, none⟩))).run Try.prog w = .ok (.agg #[.int .i64 e.epoch, .int .i64 e.peer, .int .i64 e.acked, .int .i64 e.sent, .int .i64 e.got, .int .i64 e.timer, yq, .bool e.owe]) w := by
  have hr := World.rangeAt_of_block H 0 8
  exact run_loadAt_mid (P := Try.prog) w b 0 26 [.int .i64 e.epoch, .int .i64 e.peer, .int .i64 e.acked, .int .i64 e.sent, .int .i64 e.got, .int .i64 e.timer, yq, .bool e.owe] _ hr Try.underlying26 rfl (by kernel_rfl)
theorem sd_store (H : w.heap[b]? = some (.cells (sdCells e yq flv ftv sent gv resets) 34 (0, 0))) (e' : EP) (Aq : Option Addr) (nq cq : Nat) :
    ∃ w', (Instr.storeAt 26 (.pointer (some ⟨b, 0, none⟩)) (.agg #[.int .i64 e'.epoch, .int .i64 e'.peer, .int .i64 e'.acked, .int .i64 e'.sent, .int .i64 e'.got, .int .i64 e'.timer, (.slice Aq nq cq), .bool e'.owe])).run Try.prog w = .ok () w' ∧
      w'.heap[b]? = some (.cells (sdCells e' (.slice Aq nq cq) flv ftv sent gv resets) 34 (0, 0)) ∧ w.grownBy w' (some b) := by
  have ht : w.there b 0 8 := fun j hj => by
    refine ⟨?_, by have := blk_free H (0 + j); exact this⟩
    have : ∃ v, (sdCells e yq flv ftv sent gv resets)[0 + j]? = some v := by
      rcases (show j = 0 ∨ j = 1 ∨ j = 2 ∨ j = 3 ∨ j = 4 ∨ j = 5 ∨ j = 6 ∨ j = 7 by omega) with rfl | rfl | rfl | rfl | rfl | rfl | rfl | rfl <;> exact ⟨_, rfl⟩
    obtain ⟨v, hv⟩ := this
    rw [blk_at H (0 + j) v hv]
    rfl
  have hb := setCells_blk (cs := (sdCells e yq flv ftv sent gv resets).toList) (o := 0) (by simpa using H) [.int .i64 e'.epoch, .int .i64 e'.peer, .int .i64 e'.acked, .int .i64 e'.sent, .int .i64 e'.got, .int .i64 e'.timer, (.slice Aq nq cq), .bool e'.owe] (by simp [sdCells])
  refine ⟨_, run_storeAt_mid w b 0 26 _ ht (by kernel_rfl) (by simp [Value.oneCell']), ?_, hb.2⟩
  rw [hb.1]
  simp [sdCells]
end
/-- the blocks that are written while two sides exchange -/
def xsOf (E : List Nat) (ba bb : Nat) (ga gb : Value) : List Nat := ba :: bb :: (ga.ownBlock.toList ++ (gb.ownBlock.toList ++ E))
theorem mem_xs {E : List Nat} {ba bb : Nat} {ga gb : Value} {x : Nat} : x ∈ xsOf E ba bb ga gb ↔ x = ba ∨ x = bb ∨ ga.ownBlock = some x ∨ (gb.ownBlock = some x ∨ x ∈ E) := by
  simp only [xsOf, List.mem_cons, List.mem_append, Option.mem_toList]
structure SdIn (xs : List Nat) (W : World) (b : Nat) (s : SD) (gv : Value) : Prop where
  ex : ∃ Aq cq Af fc ftv zs, W.heap[b]? = some (.cells (sdCells s.e (.slice Aq s.e.queue.length cq) (.slice Af s.fl.length fc) ftv s.sent gv s.resets) 34 (0, 0)) ∧ St xs W (fun W' => QIn W' (.slice Aq s.e.queue.length cq) s.e.queue) ∧
    zs.map FZ.plain = s.fl ∧ St xs W (fun W' => InR flCells W' (.slice Af s.fl.length fc) zs) ∧ (∀ z ∈ zs, St xs W (fun W' => InB W' (bodyV z.2) z.2.b)) ∧ St xs W (fun W' => FatesIn W' ftv s.fates)
theorem SdIn.mono {xs ys : List Nat} {W W1 : World} {b : Nat} {s : SD} {gv : Value} (h : SdIn xs W b s gv) (hk : Kept W.heap.size xs W W1) (hy : ∀ y ∈ ys, y ∈ xs ∨ W.heap.size ≤ y) (hb : W1.heap[b]? = W.heap[b]?) : SdIn ys W1 b s gv := by
  obtain ⟨Aq, cq, Af, fc, ftv, zs, h1, h2, h3, h4, h5, h6⟩ := h.ex
  exact ⟨Aq, cq, Af, fc, ftv, zs, hb.trans h1, h2.mono hk hy, h3, h4.mono hk hy, fun z hz => (h5 z hz).mono hk hy, h6.mono hk hy⟩
/-- two sides in memory; the blocks E lie beside -/
structure XSt (E : List Nat) (w0 W : World) (ba bb : Nat) (a b : SD) (ga gb : Value) : Prop where
  sa : SdIn (xsOf E ba bb ga gb) W ba a ga
  sb : SdIn (xsOf E ba bb ga gb) W bb b gb
  ne : ba ≠ bb
  oa : OwnV bv 5 w0.heap.size W ga a.got
  ob : OwnV bv 5 w0.heap.size W gb b.got
  gne : ∀ k, ga.ownBlock = some k → gb.ownBlock ≠ some k
  la : w0.heap.size ≤ ba
  lb : w0.heap.size ≤ bb
  ext : Ext w0 W
  beside : ∀ x ∈ E, w0.heap.size ≤ x ∧ x < W.heap.size ∧ x ≠ ba ∧ x ≠ bb ∧ ga.ownBlock ≠ some x ∧ gb.ownBlock ≠ some x
section
variable {E : List Nat} {w0 W W' : World} {ba bb : Nat} {a b a' : SD} {ga gb : Value}
theorem XSt.symm (h : XSt E w0 W ba bb a b ga gb) : XSt E w0 W bb ba b a gb ga := by
  have hy : ∀ y ∈ xsOf E bb ba gb ga, y ∈ xsOf E ba bb ga gb ∨ W.heap.size ≤ y := fun y hy => by
    refine .inl ?_
    rw [mem_xs] at hy ⊢
    rcases hy with h | h | h | h | h
    · exact .inr (.inl h)
    · exact .inl h
    · exact .inr (.inr (.inr (.inl h)))
    · exact .inr (.inr (.inl h))
    · exact .inr (.inr (.inr (.inr h)))
  exact ⟨h.sb.mono (Kept.refl _ _ _) hy rfl, h.sa.mono (Kept.refl _ _ _) hy rfl, h.ne.symm, h.ob, h.oa, fun k hk e => h.gne k e hk, h.lb, h.la, h.ext, fun x hx => by obtain ⟨b1, b2, b3, b4, b5, b6⟩ := h.beside x hx; exact ⟨b1, b2, b4, b3, b6, b5⟩⟩
theorem SdIn.lt {xs : List Nat} {s : SD} {gv : Value} {n : Nat} (h : SdIn xs W n s gv) : n < W.heap.size := by
  obtain ⟨_, _, _, _, _, _, h1, _⟩ := h.ex
  exact heap_lt h1
theorem XSt.lt (h : XSt E w0 W ba bb a b ga gb) : ∀ x ∈ xsOf E ba bb ga gb, x < W.heap.size := fun x hx => by
  rw [mem_xs] at hx
  rcases hx with rfl | rfl | hx | hx | hx
  · exact h.sa.lt
  · exact h.sb.lt
  · exact h.oa.lt x hx
  · exact h.ob.lt x hx
  · exact (h.beside x hx).2.1
theorem XSt.extW (h : XSt E w0 W ba bb a b ga gb) (hx : Ext W W') : XSt E w0 W' ba bb a b ga gb :=
  ⟨h.sa.mono (Kept.of_ext hx (Nat.le_refl _)) (fun y hy => .inl hy) (hx.block _ h.sa.lt), h.sb.mono (Kept.of_ext hx (Nat.le_refl _)) (fun y hy => .inl hy) (hx.block _ h.sb.lt), h.ne, h.oa.ext hx, h.ob.ext hx, h.gne, h.la, h.lb, h.ext.trans hx, fun x hx' => by obtain ⟨b1, b2, b3⟩ := h.beside x hx'; exact ⟨b1, Nat.lt_of_lt_of_le b2 hx.size, b3⟩⟩
theorem SdIn.ne_got {xs : List Nat} {s : SD} {gv g : Value} {n base : Nat} {l : List UInt8} (h : SdIn xs W n s gv) (ho : OwnV bv 5 base W g l) : g.ownBlock ≠ some n := by
  obtain ⟨_, _, _, _, _, _, h1, _⟩ := h.ex
  exact ho.ne_blk h1 (by decide)
/-- the block of the first side has been written -/
theorem XSt.upA (h : XSt E w0 W ba bb a b ga gb) (hg : W.grownBy W' (some ba)) (hgot : a'.got = a.got) (ha : SdIn (xsOf E ba bb ga gb) W' ba a' ga) : XSt E w0 W' ba bb a' b ga gb := by
  have hk : Kept W.heap.size (xsOf E ba bb ga gb) W W' := Kept.of_grown hg (Nat.le_refl _) (fun k e => by cases e; exact .inr (by rw [mem_xs]; exact .inl rfl))
  refine ⟨ha, h.sb.mono hk (fun y hy => .inl hy) (hg.block _ h.sb.lt (fun e => h.ne (by cases e; rfl))), h.ne, ?_, h.ob.kept hg (.inr (h.sa.ne_got h.ob)), h.gne, h.la, h.lb, h.ext.grown hg (fun k e => by cases e; exact h.la), fun x hx' => by obtain ⟨b1, b2, b3⟩ := h.beside x hx'; exact ⟨b1, Nat.lt_of_lt_of_le b2 hg.size, b3⟩⟩
  rw [hgot]
  exact h.oa.kept hg (.inr (h.sa.ne_got h.oa))
theorem XSt.keptA (hg : W.grownBy W' (some ba)) : Kept W.heap.size (xsOf E ba bb ga gb) W W' := Kept.of_grown hg (Nat.le_refl _) (fun k e => by cases e; exact .inr (by rw [mem_xs]; exact .inl rfl))
end
/-- a block that lies beside has been written -/
theorem XSt.aside {E E' : List Nat} {w0 W W' : World} {ba bb : Nat} {a b : SD} {ga gb : Value} (h : XSt E w0 W ba bb a b ga gb) (hk : Kept W.heap.size E W W') (he : Ext w0 W') (hE : ∀ y ∈ E', (y ∈ E ∨ W.heap.size ≤ y) ∧ y < W'.heap.size) : XSt E' w0 W' ba bb a b ga gb := by
  have hk2 : Kept W.heap.size (xsOf E ba bb ga gb) W W' := hk.more fun x hx => by rw [mem_xs]; exact .inr (.inr (.inr (.inr hx)))
  have hy : ∀ y ∈ xsOf E' ba bb ga gb, y ∈ xsOf E ba bb ga gb ∨ W.heap.size ≤ y := fun y hy => by
    rw [mem_xs] at hy
    rcases hy with h | h | h | h | h
    · exact .inl (by rw [mem_xs]; exact .inl h)
    · exact .inl (by rw [mem_xs]; exact .inr (.inl h))
    · exact .inl (by rw [mem_xs]; exact .inr (.inr (.inl h)))
    · exact .inl (by rw [mem_xs]; exact .inr (.inr (.inr (.inl h))))
    · rcases (hE y h).1 with h | h
      · exact .inl (by rw [mem_xs]; exact .inr (.inr (.inr (.inr h))))
      · exact .inr h
  have hst : ∀ (v : Value) (l : List UInt8), OwnV bv 5 w0.heap.size W v l → (∀ x ∈ E, v.ownBlock ≠ some x) → OwnV bv 5 w0.heap.size W' v l := fun v l ho hn => St.ownV ho hn W' hk
  refine ⟨h.sa.mono hk2 hy (hk.block _ h.sa.lt fun hm => (h.beside _ hm).2.2.1 rfl), h.sb.mono hk2 hy (hk.block _ h.sb.lt fun hm => (h.beside _ hm).2.2.2.1 rfl), h.ne, hst _ _ h.oa fun x hx => (h.beside x hx).2.2.2.2.1, hst _ _ h.ob fun x hx => (h.beside x hx).2.2.2.2.2, h.gne, h.la, h.lb, he, fun x hx => ?_⟩
  rcases (hE x hx).1 with h1 | h1
  · obtain ⟨b1, b2, b3⟩ := h.beside x h1
    exact ⟨b1, (hE x hx).2, b3⟩
  · refine ⟨Nat.le_trans h.ext.size h1, (hE x hx).2, ?_, ?_, ?_, ?_⟩
    · have := h.sa.lt; omega
    · have := h.sb.lt; omega
    · intro e; have := h.oa.lt x e; omega
    · intro e; have := h.ob.lt x e; omega
/-! what happens, in plain words -/
noncomputable def sendOne (now : Int) (s : SD) (b : List UInt8) : SD := ⟨s.e, s.fl ++ sentL (fateOf s.fates s.sent) b now 8, s.fates, s.sent + 1, s.got, s.resets⟩
noncomputable def sendAll (now : Int) (s : SD) (l : List (List UInt8)) : SD := l.foldl (sendOne now) s
def SD.setE (s : SD) (e : EP) : SD := ⟨e, s.fl, s.fates, s.sent, s.got, s.resets⟩
noncomputable def pollS (now : Int) (s : SD) : SD := sendAll now (s.setE (pollF s.e now).1) (pollF s.e now).2
/-- a datagram has arrived -/
def RecvStep (s : SD) (b : List UInt8) (s' : SD) : Prop := ∃ p er, DecIs b p er ∧ s' = ⟨(recvF s.e p er).1, s.fl, s.fates, s.sent, s.got ++ (recvF s.e p er).2.1.flatten, if (recvF s.e p er).2.2 then s.resets + 1 else s.resets⟩
inductive RecvAll : SD → List (List UInt8) → SD → Prop
  | nil (s : SD) : RecvAll s [] s
  | snoc {s s1 s2 : SD} {l : List (List UInt8)} {b : List UInt8} : RecvAll s l s1 → RecvStep s1 b s2 → RecvAll s (l ++ [b]) s2
/-- what is due of x arrives at y -/
def Arrives (now : Int) (x y x' y' : SD) : Prop := ∃ outs, outs.Perm ((x.fl.filter (fun z => !decide (now < z.1))).map (·.2)) ∧ x' = ⟨x.e, x.fl.filter (fun z => decide (now < z.1)), x.fates, x.sent, x.got, x.resets⟩ ∧ RecvAll y outs y'
def Exch (now : Int) (a b a' b' : SD) : Prop := ∃ a2 b2, Arrives now (pollS now a) (pollS now b) a2 b2 ∧ Arrives now b2 a2 b' a'
end Go.Proofs.Ytnobepobalpccaa
