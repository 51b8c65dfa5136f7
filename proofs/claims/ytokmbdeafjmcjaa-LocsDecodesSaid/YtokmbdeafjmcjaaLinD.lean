/- The buffer of Encode: its two closures. -/
import Derived.Test.YtokmbdeafjmcjaaLinC
namespace Go.Proofs.Ytokmbdeafjmcjaa
open Go.RowKit
set_option linter.unusedVariables false

theorem elem_u8 : Elem1 Try.prog 32 5 1 := by
  rcases hi : Try.prog.info? 5 with _ | i
  · have := u8_info; rw [hi] at this; cases this
  · have := u8_info
    rw [hi] at this
    simp only [Option.map_some, Option.some.injEq, Prod.mk.injEq] at this
    exact ⟨Try.underlying32, i, _, hi, this.1, this.2.1, this.2.2, rfl⟩
theorem OwnB.toV {base : Nat} {w : World} {v : Value} {l : List UInt8} (h : OwnB base w v l) : OwnV bv 5 base w v l := h
/-- bytes that grow in the box g; their rows lie from base on -/
def Buf (base g : Nat) (w : World) (l : List UInt8) : Prop := ∃ y, w.heap[g]? = some (.cells #[y] 32 (0, 0)) ∧ OwnV bv 5 base w y l
/-- only the box g and rows of bytes from base on have been written -/
structure Only (base g : Nat) (w w' : World) : Prop where
  os : w'.os = w.os
  tape : w'.tape = w.tape
  output : w'.output = w.output
  size : w.heap.size ≤ w'.heap.size
  block : ∀ k o, w.heap[k]? = some o → k ≠ g → (k < base ∨ ∀ cs fr, o ≠ .cells cs 5 fr) → w'.heap[k]? = some o
section
variable {base g : Nat} {w w' w2 : World}
theorem Only.refl (base g : Nat) (w : World) : Only base g w w := ⟨rfl, rfl, rfl, Nat.le_refl _, fun _ _ h _ _ => h⟩
theorem Only.trans (h : Only base g w w') (k : Only base g w' w2) : Only base g w w2 :=
  ⟨k.os.trans h.os, k.tape.trans h.tape, k.output.trans h.output, Nat.le_trans h.size k.size, fun i o hi hg ho => k.block i o (h.block i o hi hg ho) hg ho⟩
theorem Only.of_ext (h : Ext w w') : Only base g w w' := ⟨h.os, h.tape, h.output, h.size, fun i o hi _ _ => h.heap hi⟩
theorem Only.box (h : Only base g w w') {k : Nat} {cs : Array Value} {t : TypeId} {fr : Nat × Nat} (hb : w.heap[k]? = some (.cells cs t fr)) (hk : k ≠ g) (ht : t ≠ 5) : w'.heap[k]? = some (.cells cs t fr) :=
  h.block k _ hb hk (.inr fun cs' fr' e => by injection e with _ e2; exact ht e2)
theorem Only.grew {y y' : Value} {l : List UInt8} (ho : OwnV bv 5 base w y l) (hg : Grew w w' y y') : Only base g w w' := by
  refine ⟨hg.grown.os, hg.grown.tape, hg.grown.output, hg.grown.size, fun k o hk hkg hor => ?_⟩
  by_cases hy : some k = y.ownBlock
  · exfalso
    rcases ho.2 with ⟨rfl, _⟩ | ⟨g', cap, cur, rfl, hb, hc, _⟩
    · cases hy
    · have e : k = g' := by simpa [Value.ownBlock] using hy
      subst e
      rw [hk] at hc
      injection hc with hc
      rcases hor with h1 | h1
      · omega
      · exact h1 _ _ hc
  · exact blk_grown hk hg.grown hy
theorem Only.set (w : World) (j : Nat) (u : Value) : Only base g w (w.setCell ⟨g, j, none⟩ u) := by
  have hs := gset w ⟨g, j, none⟩ u
  exact ⟨hs.os, hs.tape, hs.output, hs.size, fun k o hk hkg _ => blk_grown hk hs (fun e => hkg (by cases e; rfl))⟩
theorem Only.ext {w0 : World} (h : Only base g w w') (he : Ext w0 w) (h1 : w0.heap.size ≤ base) (h2 : w0.heap.size ≤ g) : Ext w0 w' := by
  refine ⟨h.os.trans he.os, h.tape.trans he.tape, h.output.trans he.output, Nat.le_trans he.size h.size, fun i hi => ?_⟩
  have hb := he.block i hi
  have hlt : i < w.heap.size := Nat.lt_of_lt_of_le hi he.size
  rw [h.block i _ (Array.getElem?_eq_getElem hlt) (by omega) (.inl (by omega)), ← hb, Array.getElem?_eq_getElem hlt]
theorem Buf.ext {l : List UInt8} (h : Buf base g w l) (he : Ext w w') : Buf base g w' l := by
  obtain ⟨y, h1, h2⟩ := h
  exact ⟨y, he.heap h1, h2.ext he⟩
/-- the row has grown and is laid into its box again -/
theorem Buf.put {l m : List UInt8} {y y' : Value} (hb : w.heap[g]? = some (.cells #[y] 32 (0, 0))) (ho : OwnV bv 5 base w y l) (ho' : OwnV bv 5 base w' y' m) (hg : Grew w w' y y') :
    Buf base g (w'.setCell ⟨g, 0, none⟩ y') m ∧ Only base g w (w'.setCell ⟨g, 0, none⟩ y') ∧ w'.heap[g]? = some (.cells #[y] 32 (0, 0)) := by
  have h1 := blk_grown hb hg.grown (fun e => ho.ne_blk hb (by decide) e.symm)
  exact ⟨⟨y', blk_set h1 0 y', ho'.kept (gset w' ⟨g, 0, none⟩ y') (.inr (ho'.ne_blk h1 (by decide)))⟩, (Only.grew ho hg).trans (Only.set w' 0 y'), h1⟩
end
def BufPost (base g : Nat) (l : List UInt8) (w : World) (en : Ending) (w' : World) : Prop := ∃ r, en = .returned r ∧ Buf base g w' l ∧ Only base g w w'
set_option maxRecDepth 100000 in
theorem unsigned_any (base g : Nat) (l : List UInt8) (v : Int) (w : World) (hb : Buf base g w l) (hs : base ≤ w.heap.size) (hl : l.length ≤ 1000000) (hv : -9223372036854775808 ≤ v ∧ v ≤ 9223372036854775807) :
    Calls Try.prog 56 #[.int .i64 v, .pointer (some ⟨g, 0, none⟩)] w (BufPost base g (l ++ uintB v) w) := by
  obtain ⟨y, hblk, ho⟩ := hb
  obtain ⟨A, c, rfl, _, _⟩ := ho.inV
  have c0 := blk_at hblk 0 _ rfl
  go_enter Try.func56, Try.ntmps56
  go_upto_region 0 with fail
  refine wp_region_X #[true, true, true, false, false] 3 2 (by kernel_rfl) rfl ?_
  refine wpX_vt 0 (.slice A l.length c) rfl rfl (by kernel_rfl) (by kernel_rfl) (by kernel_rfl) (fun _ _ _ _ h => h) (by kernel_rfl) rfl (by rfl) (fun W' hW => by
    have z := (((Ext.refl w).drew).trans hW).cell c0
    go_simp) ?_
  simp only [List.setIfInBounds_toArray, List.set_cons_zero, List.set_cons_succ]
  refine wpX_vt 1 (.int .i64 v) rfl rfl (by kernel_rfl) (by kernel_rfl) (by kernel_rfl) (fun _ _ _ _ h => h) (by kernel_rfl) rfl (by rfl) (fun W' hW => by
    skip
    go_simp) ?_
  simp only [List.setIfInBounds_toArray, List.set_cons_zero, List.set_cons_succ]
  refine wpX_c 2 57 #[.slice none 0 0, .int .i64 v] rfl rfl (by kernel_rfl) rfl rfl (fun W => by go_simp) ?_
  intro W1 hW1
  have hX1 := ((Ext.refl w).drew).trans hW1
  refine (AppendUint_any _ [] v W1 (InV.nil W1) (by simp) hv.2).mono ?_
  rintro en w5 ⟨y5, rfl, ho5, he5⟩
  have hi5 : InB w5 y5 (uintB v) := by simpa using ho5.toV.inV
  refine ⟨_, rfl, he5, ?_⟩
  simp only [List.setIfInBounds_toArray, List.set_cons_zero, List.set_cons_succ]
  refine wpX_end rfl fun W7 hW7 => tail_seq 3 rfl (by kernel_rfl) ?_
  simp only [List.drop_succ_cons, List.drop_zero]
  have hX7 := (hX1.trans he5).trans hW7
  have hi7 := hi5.ext hW7
  have hblk7 := hX7.heap hblk
  have ho7 := ho.ext hX7
  have hln : (uintB v).length ≤ 100 := Nat.le_trans (uintB_len hv.2) (by omega)
  have hHLN := Lib.hid hln
  have hs7 := Nat.le_trans hs hX7.size
  clear hln hW1 hX1 hW7 hi5 ho5 he5 c0 hblk ho
  go_wp2_with (at_builtin; go_must (refine wpList_appendV elem_u8 (fun _ => rfl) rfl (.tmp 3) (.tmp 5) rfl base _ l rfl ho7 _ (uintB v) rfl hi7 (by have := hHLN.out; omega) (by omega) hs7 (Hold.out ?_)))
  refine Hold.mk fun v9 w9 ho9 hg9 => ?_
  obtain ⟨hB, hO, hblk9⟩ := Buf.put hblk7 ho7 ho9 hg9
  have f0 := blk_free hblk9 0
  have q0 := blk_at hblk9 0 _ rfl
  have hlt := heap_lt hblk9
  have hOO := (Only.of_ext (base := base) (g := g) hX7).trans hO
  obtain ⟨V9, d9, hv9, _, _⟩ := ho9.inV
  obtain ⟨n9, hn9⟩ : ∃ n9, n9 = (l ++ uintB v).length := ⟨_, rfl⟩
  rw [← hn9] at hv9
  subst hv9
  clear hn9
  clear ho9 hg9 hO hblk7 ho7 hi7 hX7 hblk9
  go_wp2_with fail
  refine NoPanic.normal ?_
  go_wp2_with fail
  refine bodyPost_ret (by simp [results, Try.results56, go_sem]; rfl) rfl ?_
  exact ⟨_, rfl, hB, hOO⟩
set_option maxRecDepth 100000 in
theorem signed_any (base g : Nat) (l : List UInt8) (v : Int) (w : World) (hb : Buf base g w l) (hs : base ≤ w.heap.size) (hl : l.length ≤ 1000000) (hv : -9223372036854775808 ≤ v ∧ v ≤ 9223372036854775807) :
    Calls Try.prog 58 #[.int .i64 v, .pointer (some ⟨g, 0, none⟩)] w (BufPost base g (l ++ leb (zig v)) w) := by
  obtain ⟨y, hblk, ho⟩ := hb
  obtain ⟨A, c, rfl, _, _⟩ := ho.inV
  have c0 := blk_at hblk 0 _ rfl
  go_enter Try.func58, Try.ntmps58
  go_upto_region 0 with fail
  refine wp_region_X #[true, true, true, false, false] 3 2 (by kernel_rfl) rfl ?_
  refine wpX_vt 0 (.slice A l.length c) rfl rfl (by kernel_rfl) (by kernel_rfl) (by kernel_rfl) (fun _ _ _ _ h => h) (by kernel_rfl) rfl (by rfl) (fun W' hW => by
    have z := (((Ext.refl w).drew).trans hW).cell c0
    go_simp) ?_
  simp only [List.setIfInBounds_toArray, List.set_cons_zero, List.set_cons_succ]
  refine wpX_vt 1 (.int .i64 v) rfl rfl (by kernel_rfl) (by kernel_rfl) (by kernel_rfl) (fun _ _ _ _ h => h) (by kernel_rfl) rfl (by rfl) (fun W' hW => by
    skip
    go_simp) ?_
  simp only [List.setIfInBounds_toArray, List.set_cons_zero, List.set_cons_succ]
  refine wpX_c 2 59 #[.slice none 0 0, .int .i64 v] rfl rfl (by kernel_rfl) rfl rfl (fun W => by go_simp) ?_
  intro W1 hW1
  have hX1 := ((Ext.refl w).drew).trans hW1
  refine (AppendInt_any _ [] v W1 (InV.nil W1) (by simp) hv.1 hv.2).mono ?_
  rintro en w5 ⟨y5, rfl, ho5, he5⟩
  have hi5 : InB w5 y5 (leb (zig v)) := by simpa using ho5.toV.inV
  refine ⟨_, rfl, he5, ?_⟩
  simp only [List.setIfInBounds_toArray, List.set_cons_zero, List.set_cons_succ]
  refine wpX_end rfl fun W7 hW7 => tail_seq 3 rfl (by kernel_rfl) ?_
  simp only [List.drop_succ_cons, List.drop_zero]
  have hX7 := (hX1.trans he5).trans hW7
  have hi7 := hi5.ext hW7
  have hblk7 := hX7.heap hblk
  have ho7 := ho.ext hX7
  have hln : (leb (zig v)).length ≤ 100 := Nat.le_trans (leb_len10 (zig_lt hv.1 hv.2)) (by omega)
  have hHLN := Lib.hid hln
  have hs7 := Nat.le_trans hs hX7.size
  clear hln hW1 hX1 hW7 hi5 ho5 he5 c0 hblk ho
  go_wp2_with (at_builtin; go_must (refine wpList_appendV elem_u8 (fun _ => rfl) rfl (.tmp 3) (.tmp 5) rfl base _ l rfl ho7 _ (leb (zig v)) rfl hi7 (by have := hHLN.out; omega) (by omega) hs7 (Hold.out ?_)))
  refine Hold.mk fun v9 w9 ho9 hg9 => ?_
  obtain ⟨hB, hO, hblk9⟩ := Buf.put hblk7 ho7 ho9 hg9
  have f0 := blk_free hblk9 0
  have q0 := blk_at hblk9 0 _ rfl
  have hlt := heap_lt hblk9
  have hOO := (Only.of_ext (base := base) (g := g) hX7).trans hO
  obtain ⟨V9, d9, hv9, _, _⟩ := ho9.inV
  obtain ⟨n9, hn9⟩ : ∃ n9, n9 = (l ++ leb (zig v)).length := ⟨_, rfl⟩
  rw [← hn9] at hv9
  subst hv9
  clear hn9
  clear ho9 hg9 hO hblk7 ho7 hi7 hX7 hblk9
  go_wp2_with fail
  refine NoPanic.normal ?_
  go_wp2_with fail
  refine bodyPost_ret (by simp [results, Try.results58, go_sem]; rfl) rfl ?_
  exact ⟨_, rfl, hB, hOO⟩
end Go.Proofs.Ytokmbdeafjmcjaa
