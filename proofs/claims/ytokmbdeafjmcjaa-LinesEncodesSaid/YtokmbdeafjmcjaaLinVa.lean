/- Words for walks that write bytes of their own beside boxes of rows and tables. -/
import Derived.Test.YtokmbdeafjmcjaaLinU
namespace Go.Proofs.Ytokmbdeafjmcjaa
open Go.RowKit
set_option linter.unusedVariables false

section
variable {P : Program}
/-- an append to a row of the call's own, in a region that draws its order -/
theorem wpZ_appendV {α : Type} {f : α → Value} {md : Region.Mode} {ops : Array Oper} {Q : Exit → Act → World → Prop} {LF : Array Bool} {T : Nat → Array Bool → Act → World → Prop} {t e : TypeId} {bytes : Nat} (he : Elem1 P t e bytes) (hc : ∀ y, (f y).oneCell' = true) (i : Nat) {o : Oper} {d : Tmp} {n : Nat} {listed : Array Bool} {tm : Array Value} {df : List Deferred} {w : World}
    (s x : Operand) (base : Nat) (v : Value) (l : List α) (y : Value) (m : List α) (ho : ops[i]? = some o) (hd : o.dst = some d) (hr : Region.ready md ops listed = [i]) (hLF : LF.getD i false = true) (hg : o.guard = none)
    (hop : o.op = .call { callee := .builtin .append, args := #[s, x], argTypes := #[t, t] }) (hs : (Act.mk tm df).eval s = v) (hx : (Act.mk tm df).eval x = y)
    (hown : OwnV f e base w v l) (hin : InV f w y m) (h63 : l.length + m.length ≤ 1073741824) (hb : bytes ≤ 4096) (hbase : base ≤ w.heap.size)
    (h : ∀ v' W W', Ext w W → OwnV f e base W' v' (l ++ m) → Grew W W' v v' → wpZ P md ops Q LF v.ownBlock T n (listed.setIfInBounds i true) ⟨tm.setIfInBounds d v', df⟩ W') : wpZ P md ops Q LF v.ownBlock T (n + 1) listed ⟨tm, df⟩ w := by
  refine wpZ_one hr hLF fun W hW => ?_
  refine op_append he hc ho hg hop hs hx (Nat.le_trans hbase hW.size) h63 hb (hown.ext hW) (hin.ext hW) fun v' W' h2 h3 => ⟨h3.grown, ?_⟩
  rw [hd]
  exact h v' W W' hW h2 h3
end
theorem longB_cat {s r : LRow} {c5 c6 c7 c8 c9 : List UInt8} {up hf mo rs : Int} {ob : UInt8} (hup : up = r.addr - s.addr) (hhf : hf = up / 2) (hmo : mo = r.stmt - s.stmt) (hrs : rs = up - hf) (hob : ob = if r.mark then 5 else 4)
    (h6 : c6 = (c5 ++ [1]) ++ uintB hf) (h7 : c7 = (c6 ++ [2]) ++ uintB r.ctx) (h8 : c8 = (c7 ++ [3]) ++ leb (zig mo)) (h9 : c9 = (c8 ++ [1]) ++ uintB rs) : c9 ++ [ob] = c5 ++ longB s r := by
  subst hup hhf hmo hrs hob h6 h7 h8 h9
  simp [longB]
/-- what is known at a row -/
theorem RowSt.at_ {hi : Int} (hh : hi ≤ 1048576) : ∀ (l : List LRow) (k : Nat) {s : LRow} {nx : Int}, RowSt hi s nx l → ∀ (hk : k < l.length), Small (lastR s (l.take k)) ∧ Small l[k] ∧ (lastR s (l.take k)).addr ≤ l[k].addr
  | [], k, _, _, _, hk => by simp at hk
  | r :: l, 0, s, nx, h, hk => by
    obtain ⟨h1, h2, _⟩ := h.next hh
    exact ⟨h.1, h1, h2⟩
  | r :: l, k + 1, s, nx, h, hk => by
    obtain ⟨_, _, h3⟩ := h.next hh
    exact RowSt.at_ hh l k h3 (by simpa using hk)
/-- the boxes of the table, of the row ahead and of the row; the bytes -/
structure LB (w w1 : World) (g6 g7 g9 : Nat) (C6 C7 C9 : Array Value) (v : Value) (c : List UInt8) (W : World) : Prop where
  sta : W.heap[g7]? = some (.cells C7 53 (0, 0))
  tab : W.heap[g6]? = some (.cells C6 46 (0, 0))
  row : W.heap[g9]? = some (.cells C9 53 (0, 0))
  own : OwnV bv 5 w1.heap.size W v c
  ext : Ext w W
  ext1 : Ext w1 W
section
variable {w w1 W W' : World} {g6 g7 g9 : Nat} {C6 C7 C9 : Array Value} {v v' : Value} {c c' : List UInt8}
theorem LB.aside (h : LB w w1 g6 g7 g9 C6 C7 C9 v c W) (he : Ext W W') : LB w w1 g6 g7 g9 C6 C7 C9 v c W' :=
  ⟨he.heap h.sta, he.heap h.tab, he.heap h.row, h.own.ext he, h.ext.trans he, h.ext1.trans he⟩
theorem LB.put (h : LB w w1 g6 g7 g9 C6 C7 C9 v c W) (hx : Ext w w1) (ho : OwnV bv 5 w1.heap.size W' v' c') (hg : Grew W W' v v') : LB w w1 g6 g7 g9 C6 C7 C9 v' c' W' :=
  ⟨blk_grown h.sta hg.grown (h.own.ne_blk h.sta (by decide)).symm, blk_grown h.tab hg.grown (h.own.ne_blk h.tab (by decide)).symm, blk_grown h.row hg.grown (h.own.ne_blk h.row (by decide)).symm, ho, hg.ext h.ext (fun k hk => Nat.le_trans hx.size (h.own.ge k hk)), hg.ext h.ext1 h.own.ge⟩
theorem LB.call (h : LB w w1 g6 g7 g9 C6 C7 C9 v c W) (ho : OwnB W.heap.size W' v' c') (he : Ext W W') : LB w w1 g6 g7 g9 C6 C7 C9 v' c' W' :=
  ⟨he.heap h.sta, he.heap h.tab, he.heap h.row, ho.toV.low h.ext1.size, h.ext.trans he, h.ext1.trans he⟩
/-- the row ahead is written whole -/
theorem LB.sync (h : LB w w1 g6 g7 g9 C6 C7 C9 v c W) (hx : Ext w w1) (h79 : g7 ≠ g9) (hs7 : w1.heap.size ≤ g7) (cs : Array Value) : LB w w1 g6 g7 g9 C6 cs C9 v c (W.setRow g7 cs) := by
  have gs := gsetRow W g7 cs
  have h76 : g6 ≠ g7 := fun e => by
    have h1 := h.tab
    rw [e, h.sta] at h1
    injection h1 with h1
    injection h1 with _ e2
    exact absurd e2 (by decide)
  exact ⟨setRow_heap _ _ _ _ _ _ h.sta, blk_grown h.tab gs (fun e => h76 (by cases e; rfl)), blk_grown h.row gs (fun e => h79 (by cases e; rfl)), h.own.kept gs (.inr (h.own.ne_blk h.sta (by decide))), h.ext.grown gs (fun k e => by cases e; exact Nat.le_trans hx.size hs7), h.ext1.grown gs (fun k e => by cases e; exact hs7)⟩
end
end Go.Proofs.Ytokmbdeafjmcjaa
