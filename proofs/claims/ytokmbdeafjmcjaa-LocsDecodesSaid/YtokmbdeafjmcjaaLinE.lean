/- The bytes of line tables, and the walk of Encode. -/
import Derived.Test.YtokmbdeafjmcjaaLinD
namespace Go.Proofs.Ytokmbdeafjmcjaa
open Go.RowKit
set_option linter.unusedVariables false

def shortR (up more : Int) (mark : Bool) : Prop := mark = true ∧ up ≤ 29 ∧ -2 ≤ more ∧ more ≤ 5
instance (up more : Int) (mark : Bool) : Decidable (shortR up more mark) := by unfold shortR; infer_instance
def ctxB (s r : LRow) : List UInt8 := if r.ctx = s.ctx then [] else 2 :: uintB r.ctx
def upB (up : Int) : List UInt8 := if 0 < up then 1 :: uintB up else []
def moreB (more : Int) : List UInt8 := if more = 0 then [] else 3 :: leb (zig more)
def oneB (up more : Int) : UInt8 := UInt8.ofNat (16 + up * 8 + more + 2).toNat
def encRow (s r : LRow) : List UInt8 :=
  ctxB s r ++ (if shortR (r.addr - s.addr) (r.stmt - s.stmt) r.mark then [oneB (r.addr - s.addr) (r.stmt - s.stmt)] else upB (r.addr - s.addr) ++ (moreB (r.stmt - s.stmt) ++ [if r.mark then 5 else 4]))
def encRows (s : LRow) : List LRow → List UInt8
  | [] => []
  | r :: l => encRow s r ++ encRows r l
def lastR (s : LRow) : List LRow → LRow
  | [] => s
  | r :: l => lastR r l
theorem lastR_snoc (r : LRow) : ∀ (l : List LRow) (s : LRow), lastR s (l ++ [r]) = r
  | [], _ => rfl
  | x :: l, s => lastR_snoc r l x
theorem encRows_snoc (r : LRow) : ∀ (l : List LRow) (s : LRow), encRows s (l ++ [r]) = encRows s l ++ encRow (lastR s l) r
  | [], s => by simp [encRows, lastR]
  | x :: l, s => by
    simp only [List.cons_append, encRows, lastR]
    rw [encRows_snoc r l x, List.append_assoc]
def row0 (lo : Int) : LRow := ⟨lo, 0, -1, false⟩
def encTab (t : LTab) : List UInt8 := uintB t.lo ++ (uintB t.hi ++ (encRows (row0 t.lo) t.rows ++ [0]))
def encTabs (l : List LTab) : List UInt8 := uintB l.length ++ l.flatMap encTab
open Classical in
noncomputable def EncL (l : List LTab) : List UInt8 := if RightL l then (if (encTabs l).length ≤ 60000 then encTabs l else []) else []
/-- a row within the numbers of right tables -/
structure Small (r : LRow) : Prop where
  addr : 0 ≤ r.addr ∧ r.addr ≤ 1048576
  ctx : 0 ≤ r.ctx ∧ r.ctx ≤ 255
  stmt : -1 ≤ r.stmt ∧ r.stmt ≤ 9999
theorem ctxB_len {s r : LRow} (h : Small r) : (ctxB s r).length ≤ 11 := by
  unfold ctxB
  split
  · simp
  · have := uintB_len (v := r.ctx) (by have := h.ctx; omega)
    simp only [List.length_cons]
    omega
theorem upB_len {up : Int} (h : up ≤ 1048576) : (upB up).length ≤ 11 := by
  unfold upB
  split
  · have := uintB_len (v := up) (by omega)
    simp only [List.length_cons]
    omega
  · simp
theorem moreB_len {m : Int} (h : -100000 ≤ m ∧ m ≤ 100000) : (moreB m).length ≤ 11 := by
  unfold moreB
  split
  · simp
  · have := leb_len10 (zig_lt (v := m) (by omega) (by omega))
    simp only [List.length_cons]
    omega
theorem encRow_len {s r : LRow} (hs : Small s) (hr : Small r) : (encRow s r).length ≤ 40 := by
  have h1 := ctxB_len (s := s) hr
  have h2 := upB_len (up := r.addr - s.addr) (by have := hs.addr; have := hr.addr; omega)
  have h3 := moreB_len (m := r.stmt - s.stmt) (by have := hs.stmt; have := hr.stmt; omega)
  unfold encRow
  rw [List.length_append]
  split
  · simp; omega
  · simp only [List.length_append, List.length_singleton]; omega
/-- where Encode stands within a table -/
structure ES (w : World) (base g g7 g8 g10 : Nat) (t : LTab) (y : Value) (s r : LRow) (cur : List UInt8) (W : World) : Prop where
  buf : Buf base g W cur
  tab : W.heap[g7]? = some (.cells #[.int .i64 t.lo, .int .i64 t.hi, y] 46 (0, 0))
  sta : W.heap[g8]? = some (.cells #[.int .i64 s.addr, .int .i64 s.ctx, .int .i64 s.stmt, .bool s.mark] 53 (0, 0))
  row : W.heap[g10]? = some (.cells #[.int .i64 r.addr, .int .i64 r.ctx, .int .i64 r.stmt, .bool r.mark] 53 (0, 0))
  ext : Ext w W
  size : base ≤ W.heap.size
  low : w.heap.size ≤ base ∧ w.heap.size ≤ g
theorem Buf.ne {base g : Nat} {W : World} {cur : List UInt8} (h : Buf base g W cur) {k : Nat} {cs : Array Value} {t : TypeId} {fr : Nat × Nat} (hb : W.heap[k]? = some (.cells cs t fr)) (ht : t ≠ 32) : k ≠ g := by
  rintro rfl
  obtain ⟨y, h1, _⟩ := h
  rw [h1] at hb
  injection hb with hb
  injection hb with _ e
  exact ht e.symm
theorem ES.only {w W W' : World} {base g g7 g8 g10 : Nat} {t : LTab} {y : Value} {s r : LRow} {cur cur' : List UInt8} (h : ES w base g g7 g8 g10 t y s r cur W) (hb : Buf base g W' cur') (ho : Only base g W W') : ES w base g g7 g8 g10 t y s r cur' W' :=
  ⟨hb, ho.box h.tab (h.buf.ne h.tab (by decide)) (by decide), ho.box h.sta (h.buf.ne h.sta (by decide)) (by decide), ho.box h.row (h.buf.ne h.row (by decide)) (by decide), ho.ext h.ext h.low.1 h.low.2, Nat.le_trans h.size ho.size, h.low⟩
/-- another box is written -/
theorem Buf.aside {base g k : Nat} {W W' : World} {cur : List UInt8} {cs : Array Value} {t : TypeId} {fr : Nat × Nat} (h : Buf base g W cur) (hb : W.heap[k]? = some (.cells cs t fr)) (ht : t ≠ 32) (hu : t ≠ 5) (hg : W.grownBy W' (some k)) : Buf base g W' cur := by
  have hne := h.ne hb ht
  obtain ⟨y, h1, h2⟩ := h
  exact ⟨y, blk_grown h1 hg (fun e => hne (by cases e; rfl)), h2.kept hg (.inr (h2.ne_blk hb (fun e => hu e.symm)))⟩
def RowSt (hi : Int) (s : LRow) (nx : Int) (rest : List LRow) : Prop := Small s ∧ s.addr ≤ nx ∧ okRows nx hi rest
theorem RowSt.next {hi : Int} {s r : LRow} {nx : Int} {rest : List LRow} (h : RowSt hi s nx (r :: rest)) (hh : hi ≤ 1048576) : Small r ∧ s.addr ≤ r.addr ∧ RowSt hi r (r.addr + 1) rest := by
  obtain ⟨h1, h2, h3, h4⟩ := h
  have h5 := h3.1
  have h6 := h1.addr
  have hr : Small r := ⟨by omega, by omega, by omega⟩
  exact ⟨hr, by omega, hr, by omega, h4⟩
end Go.Proofs.Ytokmbdeafjmcjaa
