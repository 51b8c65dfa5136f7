/- Contracts of the writing functions of package wire. -/
import Derived.Test.YtopanbcodfkedaaProg
import Derived.Test.YtopanbcodfkedaaBase
import Derived.Test.YtopanbcodfkedaaPlain
namespace Go.Proofs.Ytopanbcodfkedaa
open Go.RowKit

theorem u8_info : (Try.prog.info? 5).map (fun i => (i.zero, i.size, i.bytes)) = some (some (.int .u8 0), 1, 1) := by kernel_rfl

/-- a row of bytes of the call's own -/
def OwnB (base : Nat) (w : World) (v : Value) (l : List UInt8) : Prop := w.ownsRow base 5 1 v l.length (l.map bv)

theorem wpList_appendB {w : World} {ops : Array Oper} {rest : List Oper} {o : Oper} {a : Act} {Q : Exit → Act → World → Prop} (hgd : o.guard = none) (s x : Operand)
    (ho : o.op = .call { callee := .builtin .append, args := #[s, x], argTypes := #[29, 29] })
    (base : Nat) (v : Value) (l : List UInt8) (hs : a.eval s = v) (hown : OwnB base w v l)
    (A : Option Addr) (n c : Nat) (m : List UInt8) (hx : a.eval x = .slice A n c) (hn : n = m.length) (hr : Rd w A (m.map bv))
    (h63 : l.length + m.length ≤ 4611686018427387904 / 32768) (hbase : base ≤ w.heap.size)
    (h : ∀ v' w', OwnB base w' v' (l ++ m) → w.grownBy w' v.ownBlock → (v'.ownBlock = v.ownBlock ∨ v'.ownBlock = some w.heap.size) → wpList Try.prog ops Q rest (a.put o.dst v') w') : wpList Try.prog ops Q (o :: rest) a w := by
  obtain ⟨i0, hi, hz0, hz1, hz2⟩ := info_parts u8_info
  subst hn
  exact wpList_append_rd hgd s x _ ho base _ i0 _ 1 1 Try.underlying29 hi hz0 hz1 hz2 rfl (by omega) v l.length _ hs hown A m.length c (m.map bv) hx (by simp) hr (bv_one m)
    (by simp only [maxLen]; omega) (by omega) hbase fun v' w' h2 h3 h4 => h v' w' (by unfold OwnB; simpa using h2) h3 h4

theorem OwnB.inB {base : Nat} {w : World} {v : Value} {l : List UInt8} (h : OwnB base w v l) : InB w v l := by
  rcases h.2 with ⟨rfl, h0⟩ | ⟨g, cap, cur, rfl, r⟩
  · have h' : w.ownsRow base 5 1 (.slice none 0 0) l.length (l.map bv) := h
    rw [h0] at h'
    exact ⟨none, 0, by rw [h0], by omega, Rd.own h'⟩
  · exact ⟨_, cap, rfl, r.2.2.1, Rd.own (c := cap) h⟩
theorem OwnB.ge {base : Nat} {w : World} {v : Value} {l : List UInt8} (h : OwnB base w v l) : ∀ k, v.ownBlock = some k → base ≤ k := fun k hk => (World.ownsRow.lt h k hk).1
theorem OwnB.ext {base : Nat} {w w' : World} {v : Value} {l : List UInt8} (h : OwnB base w v l) (he : Ext w w') : OwnB base w' v l := he.ownsRow h
/-- append(s, x) of one byte -/
theorem wpList_append1B {w : World} {ops : Array Oper} {rest : List Oper} {o : Oper} {a : Act} {Q : Exit → Act → World → Prop} (hgd : o.guard = none) (s x : Operand)
    (ho : o.op = .call { callee := .builtin .append, args := #[s, x], argTypes := #[29, 29] })
    (base : Nat) (v : Value) (l : List UInt8) (hs : a.eval s = v) (w0 : World) (hown : OwnB base w0 v l) (y : Value) (b : UInt8) (hy : y = bv b) (hw : w = w0.alloc (.cells #[y] 5))
    (hx : a.eval x = .slice (some ⟨w0.heap.size, 0, none⟩) 1 1) (h63 : l.length ≤ 140737488351232) (hbase : base ≤ w0.heap.size)
    (h : ∀ v' w', OwnB base w' v' (l ++ [b]) → Grew w0 w' v v' → wpList Try.prog ops Q rest (a.put o.dst v') w') : wpList Try.prog ops Q (o :: rest) a w := by
  subst hw hy
  refine wpList_appendB hgd s x ho base v l hs (hown.ext ((Ext.refl w0).alloc _)) _ 1 1 [b] hx rfl (Rd.one w0 (bv b) _) (by simp; omega) (by simp; omega) ?_
  intro v' w' h1 h2 h3
  exact h v' w' h1 (((Grew.refl w0 v).alloc _).trans (Grew.of_append h2 h3))

/-- append(s, x...) of a string's bytes -/
theorem wpList_appendS {w : World} {ops : Array Oper} {rest : List Oper} {o : Oper} {a : Act} {Q : Exit → Act → World → Prop} (hgd : o.guard = none) (s x : Operand)
    (ho : o.op = .call { callee := .builtin .append, args := #[s, x], argTypes := #[29, 9] })
    (base : Nat) (v : Value) (l : List UInt8) (hs : a.eval s = v) (hown : OwnB base w v l)
    (t : ByteArray) (hx : a.eval x = .string t) (h63 : l.length + t.size ≤ 140737488351232) (hbase : base ≤ w.heap.size)
    (h : ∀ v' w', OwnB base w' v' (l ++ t.data.toList) → Grew w w' v v' → wpList Try.prog ops Q rest (a.put o.dst v') w') : wpList Try.prog ops Q (o :: rest) a w := by
  obtain ⟨i0, hi, hz0, hz1, hz2⟩ := info_parts u8_info
  refine wpList_append_src hgd s x _ _ ho base _ i0 _ 1 1 Try.underlying29 hi hz0 hz1 hz2 rfl v l.length _ hs hown (.string t) t.size (byteCells t) hx (Src.ofString w Try.underlying9 t) (by simp only [maxLen]; omega) (by omega) hbase ?_
  intro v' w' h1 h2
  refine h v' w' ?_ h2
  unfold OwnB
  rw [List.length_append, List.map_append, Array.length_toList]
  exact h1

theorem copied_any (x : Value) (l : List UInt8) (m : Int) (w : World) (hx : InB w x l) (hl : l.length ≤ 1073741824) (hm0 : 0 ≤ m) (hm : m ≤ 1073741824) :
    Calls Try.prog 42 #[x, .int .i64 m] w fun e w' => ∃ v, e = .returned v ∧ OwnB w.heap.size w' v l ∧ Ext w w' := by
  obtain ⟨A, c, rfl, _, hr⟩ := hx
  obtain ⟨m, rfl⟩ := Int.eq_ofNat_of_zero_le hm0
  obtain ⟨i0, hi, hz0, hz1, hz2⟩ := info_parts u8_info
  have hmk := fun W => run_make (P := Try.prog) W 29 5 i0 _ Try.underlying29 hi hz0 .i64 .i64 0 ((l.length : Int) + (m : Int)) (by omega) (by omega) (by rw [hz2]; omega) (by omega)
  go_enter Try.func42, Try.ntmps42
  go_wp2_with (at_builtin; go_must (refine wpList_appendB rfl (.tmp 9) (.tmp 10) rfl w.heap.size (.slice (some ⟨w.heap.size, 0, none⟩) 0 (l.length + m)) [] rfl (World.ownsRow_made w _ _ (Nat.le_refl _) (by simp only [maxLen]; omega) (by simp [size_madeCells])) A l.length c l rfl rfl (hr.ext ((Ext.refl w).alloc _)) (by simp; omega) (by simp) ?_); intro v w1 ho hg hat)
  go_ret
  refine ⟨v, rfl, by simpa using ho, (Ext.refl w).alloc _ |>.grown hg (by simp [Value.ownBlock])⟩

set_option maxRecDepth 100000 in
theorem appendGroups_any (base : Nat) (v : Value) (l : List UInt8) (u : Int) (w : World) (ho : OwnB base w v l) (hb : base ≤ w.heap.size) (hl : l.length ≤ 4294967296) (hu0 : 0 ≤ u) (hu : u < 18446744073709551616) :
    Calls Try.prog 41 #[v, .int .u64 u] w fun e w' => ∃ v', e = .returned v' ∧ OwnB base w' v' (l ++ leb u.toNat) ∧ Grew w w' v v' := by
  obtain ⟨u, rfl⟩ := Int.eq_ofNat_of_zero_le hu0
  rw [Int.toNat_natCast]
  have hlen := leb_len10 (u := u) (by omega)
  clear hu hu0
  go_enter Try.func41, Try.ntmps41
  go_wp2_with fail
  go_loopw [0, 1] (fun x y wr => ∃ (k : Nat) (pre : List UInt8), y = .int .u64 (k : Int) ∧ k ≤ u ∧ leb u = pre ++ leb k ∧ OwnB base wr x (l ++ pre) ∧ Grew w wr v x) (fun _ y _ => (intOf y).toNat)
  case atStart => exact ⟨u, [], rfl, Nat.le_refl _, rfl, by simpa using ho, Grew.refl _ _⟩
  case round =>
    obtain ⟨k, pre, rfl, hk, hpre, hox, hg⟩ := hrel
    have hsz := hg.grown.size
    have hpl : pre.length ≤ 10 := by have := congrArg List.length hpre; simp at this; omega
    have Hpre := Lib.hid hpre
    clear hpre
    by_cases hlt : k < 128
    · go_wp2_with (at_builtin; go_must (refine wpList_append1B rfl (.tmp 15) (.tmp 18) rfl base _ _ rfl wr hox _ (UInt8.ofNat k) ?hy rfl rfl (by simp; omega) (by omega) ?_); rotate_left; intro v1 w1 ho1 hg1)
      go_ret
      · exact ⟨v1, rfl, by rw [Hpre.out, leb_small hlt, ← List.append_assoc]; exact ho1, hg.trans hg1⟩
      · simp [bv]; omega
    · go_wp2_with (at_builtin; go_must (refine wpList_append1B rfl (.tmp 7) (.tmp 11) rfl base _ _ rfl wr hox _ (UInt8.ofNat (k % 128 + 128)) ?hz rfl rfl (by simp; omega) (by omega) ?_); rotate_left; intro v1 w1 ho1 hg1)
      go_roundw
      case rel => exact ⟨k / 128, pre ++ [UInt8.ofNat (k % 128 + 128)], by go_num, by omega, by rw [Hpre.out, leb_big hlt]; simp, by rw [← List.append_assoc]; exact ho1, hg.trans hg1⟩
      case measure => simp [intOf]; omega
      · simp only [or128, bv]; congr 1; simp; omega

theorem AppendUint_any (x : Value) (l : List UInt8) (v : Int) (w : World) (hx : InB w x l) (hl : l.length ≤ 1073741824) (hv : v ≤ 9223372036854775807) :
    Calls Try.prog 40 #[x, .int .i64 v] w fun e w' => ∃ y, e = .returned y ∧ OwnB w.heap.size w' y (l ++ uintB v) ∧ Ext w w' := by
  by_cases h0 : v < 0
  · go_enter Try.func40, Try.ntmps40
    go_wp2_with fail
    refine (copied_any x l 9 w hx hl (by omega) (by omega)).mono ?_
    rintro e w1 ⟨y1, rfl, ho1, he1⟩
    go_wp2_with fail
    go_ret
    exact ⟨y1, rfl, by unfold uintB; rw [if_pos h0, List.append_nil]; exact ho1, he1⟩
  · go_enter Try.func40, Try.ntmps40
    go_wp2_with fail
    refine (copied_any x l 9 w hx hl (by omega) (by omega)).mono ?_
    rintro e w1 ⟨y1, rfl, ho1, he1⟩
    go_wp2_with fail
    refine (appendGroups_any w.heap.size y1 l v w1 ho1 he1.size (by omega) (by omega) (by omega)).mono ?_
    rintro e w2 ⟨y2, rfl, ho2, hg2⟩
    go_wp2_with fail
    go_ret
    exact ⟨y2, rfl, by unfold uintB; rw [if_neg (by omega)]; exact ho2, hg2.ext he1 ho1.ge⟩

theorem zig_neg {v : Int} (h0 : v < 0) (h1 : -9223372036854775808 ≤ v) : bits .or .u64 (IntKind.u64.wrap (IntKind.u64.wrap (bits .xor .i64 (-1) v) * 2)) 1 = ((zig v : Nat) : Int) := by
  have e1 := i64_notI v h1 (by omega)
  rw [e1, wrap_u64, wrap_u64, show (-v - 1) % 18446744073709551616 = -v - 1 by omega, show ((-v - 1) * 2) % 18446744073709551616 = (-v - 1) * 2 by omega, u64_or1 _ (by omega) (by omega)]
  unfold zig
  rw [if_pos h0]; omega
theorem zig_pos {v : Int} (h0 : ¬ v < 0) : v * 2 = ((zig v : Nat) : Int) := by
  unfold zig; rw [if_neg h0]; omega

set_option maxRecDepth 100000 in
theorem AppendInt_any (x : Value) (l : List UInt8) (v : Int) (w : World) (hx : InB w x l) (hl : l.length ≤ 1073741824) (hv1 : -9223372036854775808 ≤ v) (hv : v ≤ 9223372036854775807) :
    Calls Try.prog 24 #[x, .int .i64 v] w fun e w' => ∃ y, e = .returned y ∧ OwnB w.heap.size w' y (l ++ leb (zig v)) ∧ Ext w w' := by
  have hz := zig_lt hv1 hv
  by_cases h0 : v < 0
  · have e1 := zig_neg h0 hv1
    clear hv hv1
    go_enter Try.func24, Try.ntmps24
    go_wp2_with fail
    refine (copied_any x l 10 w hx hl (by omega) (by omega)).mono ?_
    rintro e w1 ⟨y1, rfl, ho1, he1⟩
    go_wp2_with fail
    refine (appendGroups_any w.heap.size y1 l _ w1 ho1 he1.size (by omega) (by omega) (by omega)).mono ?_
    rintro e w2 ⟨y2, rfl, ho2, hg2⟩
    go_wp2_with fail
    go_ret
    exact ⟨y2, rfl, by simpa using ho2, hg2.ext he1 ho1.ge⟩
  · have e1 := zig_pos h0
    go_enter Try.func24, Try.ntmps24
    go_wp2_with fail
    refine (copied_any x l 10 w hx hl (by omega) (by omega)).mono ?_
    rintro e w1 ⟨y1, rfl, ho1, he1⟩
    go_wp2_with fail
    refine (appendGroups_any w.heap.size y1 l _ w1 ho1 he1.size (by omega) (by omega) (by omega)).mono ?_
    rintro e w2 ⟨y2, rfl, ho2, hg2⟩
    go_wp2_with fail
    go_ret
    exact ⟨y2, rfl, by simpa using ho2, hg2.ext he1 ho1.ge⟩

theorem AppendText_any (x : Value) (l : List UInt8) (t : ByteArray) (w : World) (hx : InB w x l) (hl : l.length ≤ 1073741824) (ht : t.size ≤ 1073741824 - 9) :
    Calls Try.prog 25 #[x, .string t] w fun e w' => ∃ y, e = .returned y ∧ OwnB w.heap.size w' y (l ++ (leb t.size ++ t.data.toList)) ∧ Ext w w' := by
  have hlen := leb_len10 (u := t.size) (by omega)
  go_enter Try.func25, Try.ntmps25
  go_wp2_with fail
  refine (copied_any x l _ w hx hl (by omega) (by omega)).mono ?_
  rintro e w1 ⟨y1, rfl, ho1, he1⟩
  go_wp2_with fail
  refine (appendGroups_any w.heap.size y1 l _ w1 ho1 he1.size (by omega) (by omega) (by omega)).mono ?_
  rintro e w2 ⟨y2, rfl, ho2, hg2⟩
  rw [Int.toNat_natCast] at ho2
  have he2 := hg2.ext he1 ho1.ge
  go_wp2_with (at_builtin; go_must (refine wpList_appendS rfl (.tmp 15) (.tmp 16) rfl w.heap.size y2 _ rfl ho2 t rfl (by simp; omega) he2.size ?_); intro v w3 ho3 hg3)
  go_ret
  exact ⟨v, rfl, by rw [← List.append_assoc]; exact ho3, hg3.ext he2 ho2.ge⟩
end Go.Proofs.Ytopanbcodfkedaa
