/- Datagrams are added to a row: the closure of Poll, and the reference's send. -/
import Derived.Test.YtnobepobalpccaaTraD
namespace Go.Proofs.Ytnobepobalpccaa
open Go.RowKit
set_option linter.unusedVariables false

open Classical in
/-- what a packet adds to the datagrams -/
noncomputable def sendF (out : List (List UInt8)) (p : Pkt) : List (List UInt8) := if rightP p then out ++ [encP p] else out
theorem sendF_len (out : List (List UInt8)) (p : Pkt) : (sendF out p).length ≤ out.length + 1 := by
  unfold sendF
  split <;> simp
/-- what lies below base is as it was, but for some blocks -/
structure Kept (base : Nat) (xs : List Nat) (w w' : World) : Prop where
  os : w'.os = w.os
  tape : w'.tape = w.tape
  output : w'.output = w.output
  size : w.heap.size ≤ w'.heap.size
  block : ∀ i, i < base → i ∉ xs → w'.heap[i]? = w.heap[i]?
theorem Kept.refl (base : Nat) (xs : List Nat) (w : World) : Kept base xs w w := ⟨rfl, rfl, rfl, Nat.le_refl _, fun _ _ _ => rfl⟩
theorem Kept.trans {base : Nat} {xs : List Nat} {a b c : World} (h : Kept base xs a b) (k : Kept base xs b c) : Kept base xs a c :=
  ⟨k.os.trans h.os, k.tape.trans h.tape, k.output.trans h.output, Nat.le_trans h.size k.size, fun i hi hx => (k.block i hi hx).trans (h.block i hi hx)⟩
theorem Kept.of_ext {base : Nat} {xs : List Nat} {a b : World} (h : Ext a b) (hb : base ≤ a.heap.size) : Kept base xs a b := ⟨h.os, h.tape, h.output, h.size, fun i hi _ => h.block i (Nat.lt_of_lt_of_le hi hb)⟩
theorem Kept.of_grown {base : Nat} {xs : List Nat} {a b : World} {row : Option Nat} (h : a.grownBy b row) (hb : base ≤ a.heap.size) (hr : ∀ k, row = some k → base ≤ k ∨ k ∈ xs) : Kept base xs a b :=
  ⟨h.os, h.tape, h.output, h.size, fun i hi hx => h.block i (Nat.lt_of_lt_of_le hi hb) (fun e => by
    rcases hr i e.symm with h | h
    · omega
    · exact hx h)⟩
theorem Kept.more {base : Nat} {xs ys : List Nat} {a b : World} (h : Kept base xs a b) (hs : ∀ x ∈ xs, x ∈ ys) : Kept base ys a b := ⟨h.os, h.tape, h.output, h.size, fun i hi hx => h.block i hi (fun e => hx (hs i e))⟩
theorem Kept.heap {base : Nat} {xs : List Nat} {a b : World} (h : Kept base xs a b) {g : Nat} {o : Obj} (hc : a.heap[g]? = some o) (hg : g < base) (hx : g ∉ xs) : b.heap[g]? = some o := (h.block g hg hx).trans hc
theorem Kept.ext {base : Nat} {xs : List Nat} {w a b : World} (h : Kept base xs a b) (he : Ext w a) (hb : w.heap.size ≤ base) (hx : ∀ x ∈ xs, w.heap.size ≤ x) : Ext w b :=
  ⟨h.os.trans he.os, h.tape.trans he.tape, h.output.trans he.output, Nat.le_trans he.size h.size, fun i hi => (h.block i (Nat.lt_of_lt_of_le hi hb) (fun e => by have := hx i e; omega)).trans (he.block i hi)⟩
theorem Kept.ownV {α : Type} {f : α → Value} {e : TypeId} {base b0 : Nat} {xs : List Nat} {w W : World} {v : Value} {l : List α} (h : Kept base xs w W) (ho : OwnV f e b0 w v l) (hb : ∀ k, v.ownBlock = some k → k < base ∧ k ∉ xs) : OwnV f e b0 W v l := by
  refine ⟨ho.1, ?_⟩
  rcases ho.2 with h3 | ⟨g, cap, cur, rfl, hg, hh, r⟩
  · exact Or.inl h3
  · obtain ⟨h1, h2⟩ := hb g rfl
    exact Or.inr ⟨g, cap, cur, rfl, hg, h.heap hh h1 h2, r⟩
def SendPost (g base : Nat) (out : List (List UInt8)) (p : Pkt) (w : World) (en : Ending) (w' : World) : Prop := ∃ r y, en = .returned r ∧ w'.heap[g]? = some (.cells #[y] 24 (0, 0)) ∧ QOwn base w' y (sendF out p) ∧ Kept base [g] w w'
set_option maxHeartbeats 1000000 in
set_option maxRecDepth 100000 in
theorem send1_any (v y : Value) (p : Pkt) (out : List (List UInt8)) (g base : Nat) (w : World) (hp : PktAt w v p) (hg : w.heap[g]? = some (.cells #[y] 24 (0, 0))) (ho : QOwn base w y out) (hb : base ≤ w.heap.size) (hl : out.length ≤ 1000) (hpl : p.body.length ≤ 1000000) :
    Calls Try.prog 20 #[v, .pointer (some ⟨g, 0, none⟩)] w (SendPost g base out p w) := by
  obtain ⟨yb, rfl, hbd⟩ := hp
  obtain ⟨A, c, rfl, _, _⟩ := id hbd
  go_enter Try.func20, Try.ntmps20
  go_upto_region 1 with fail
  obtain ⟨W, hW, hE, hB⟩ : ∃ W, W = w.alloc (.cells #[.int .i64 p.kind, .int .i64 p.src, .int .i64 p.dst, .int .i64 p.seq, .int .i64 p.ack, .slice A p.body.length c] 56) ∧ Ext w W ∧ W.heap[w.heap.size]? = some (.cells #[.int .i64 p.kind, .int .i64 p.src, .int .i64 p.dst, .int .i64 p.seq, .int .i64 p.ack, .slice A p.body.length c] 56 (0, 0)) := ⟨_, rfl, (Ext.refl w).alloc _, heap_alloc_new w _⟩
  rw [← hW]
  clear hW
  obtain ⟨q0, q1, q2, q3, q4, q5⟩ := blk6 hB
  go_wp2_with fail
  refine (Encode_any _ p W ⟨_, rfl, hbd.ext hE⟩ (by omega)).mono ?_
  rintro en w1 ⟨y1, er1, rfl, hc1, he1⟩
  have hX1 := hE.trans he1
  have hg1 := hX1.heap hg
  have ho1 := ho.ext hX1
  have hk1 : Kept base [g] w w1 := Kept.of_ext hX1 hb
  clear q0 q1 q2 q3 q4 q5
  rcases hc1 with ⟨hR, rfl, hoe⟩ | ⟨hR, rfl, rfl⟩
  rotate_left
  · go_wp2_with fail
    refine bodyPost_ret (by simp [results, Try.results20, go_sem]; rfl) rfl ?_
    exact ⟨_, y, rfl, hg1, by rw [sendF, if_neg hR]; exact ho1, hk1⟩
  have HS : Hid (sendF out p = out ++ [encP p]) := Lib.hid (by rw [sendF, if_pos hR])
  clear hR
  generalize encP p = en at *
  obtain ⟨A4, c4, rfl, _, _⟩ := hoe.inV
  obtain ⟨z, hzb, hzv⟩ : ∃ z : Body, z.b = en ∧ bodyV z = .slice A4 en.length c4 := ⟨⟨A4, en.length, c4, en⟩, rfl, rfl⟩
  obtain ⟨zs, hz1, hz2, hz3⟩ := ho1
  have HZ1 := Lib.hid hz1
  have HZ3 := Lib.hid hz3
  have hzl : zs.length ≤ 1000 := by have : zs.length = out.length := by rw [← hz1]; simp
                                    omega
  clear hz1 hz3
  have hA5 := (Ext.refl w1).alloc (.cells #[.slice A4 en.length c4] 32)
  have hn5 := OwnV_new (f := bodyV) w1 z 32
  rw [hzv] at hn5
  have hs5 := Nat.le_trans hb (hX1.trans hA5).size
  have hcell := blk_at hg1 0 _ rfl
  go_wp2_with (at_builtin; go_must (refine wpList_appendV elem_bs (fun _ => rfl) rfl (.tmp 12) (.tmp 14) rfl base _ zs rfl (hz2.ext hA5) _ [z] rfl hn5.inV (by simp; omega) (by omega) hs5 (Hold.out ?_)))
  refine Hold.mk fun v6 w6 ho6 hg6 => ?_
  have hzz : OwnV bv 5 base (w1.alloc (.cells #[.slice A4 en.length c4] 32)) (bodyV z) z.b := by rw [hzb, hzv]; exact (hoe.ext hA5).low (Nat.le_trans hb hE.size)
  have hq6 := QOwn.add HZ1.out (hz2.ext hA5) (fun x hx => (HZ3.out x hx).ext hA5) hzz hg6 ho6
  rw [hzb] at hq6
  have hgA := hA5.heap hg1
  have hg7 := blk_grown hgA hg6.grown ((hz2.ext hA5).ne_blk hgA (by decide)).symm
  have hk6 : Kept base [g] w w6 := (hk1.trans (Kept.of_ext hA5 (Nat.le_trans hb hX1.size))).trans (Kept.of_grown hg6.grown hs5 (fun k hk => .inl (hz2.ge k hk)))
  obtain ⟨A3, c3, hv6, _⟩ := hq6.in_.form
  rw [List.length_append, List.length_singleton] at hv6
  subst hv6
  clear hg6 hA5 hn5 hzz hz2 ho6 hgA hcell hzv hzb hoe hk1 hg1
  have hcell := blk_at hg7 0 _ rfl
  have f0 := blk_free hg7 0
  have hlt7 := heap_lt hg7
  go_wp2_with fail
  have hg8 : w6.grownBy (w6.setCell ⟨g, 0, none⟩ (.slice A3 (out.length + 1) c3)) (some g) := gset w6 ⟨g, 0, none⟩ (.slice A3 (out.length + 1) c3)
  have hB8 : (w6.setCell ⟨g, 0, none⟩ (.slice A3 (out.length + 1) c3)).heap[g]? = some (.cells #[.slice A3 (out.length + 1) c3] 24 (0, 0)) := blk_set hg7 0 (.slice A3 (out.length + 1) c3)
  have hq8 := hq6.far hg8 hg7 (by decide) (by decide)
  have hk8 := hk6.trans (Kept.of_grown hg8 (Nat.le_trans hb hk6.size) (fun k e => by cases e; exact .inr (by simp)))
  refine bodyPost_ret (by simp [results, Try.results20, go_sem]; rfl) rfl ?_
  exact ⟨_, _, rfl, hB8, by rw [HS.out]; exact hq8, hk8⟩

end Go.Proofs.Ytnobepobalpccaa
