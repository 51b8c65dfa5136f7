/- Line tables: words in memory, what may be encoded. -/
import Derived.Test.YtopanbcodfkedaaGen
namespace Go.Proofs.Ytopanbcodfkedaa
open Go.RowKit
set_option linter.unusedVariables false

def Tells (p : Prop) (w : World) (e : Ending) (w' : World) : Prop := ∃ r : Bool, e = .returned (.bool r) ∧ (r = true ↔ p) ∧ Ext w w'
theorem Tells.yes {p : Prop} {w w' : World} (hp : p) (he : Ext w w') : Tells p w (.returned (.bool true)) w' := ⟨true, rfl, ⟨fun _ => hp, fun _ => rfl⟩, he⟩
theorem Tells.no {p : Prop} {w w' : World} (hp : ¬ p) (he : Ext w w') : Tells p w (.returned (.bool false)) w' := ⟨false, rfl, ⟨(fun h => by cases h), fun h => absurd h hp⟩, he⟩
theorem Rd_blk {W : World} {g : Nat} {C : Array Value} {e : TypeId} {fr : Nat × Nat} (h : W.heap[g]? = some (.cells C e fr)) : Rd W (some ⟨g, 0, none⟩) C.toList := fun j u hu => by
  refine ⟨_, rfl, ?_⟩
  have h2 : C[j]? = some u := by simpa using hu
  unfold Addr.add
  split
  · rename_i hz
    subst hz
    simp [World.cell?, h, h2]
  · simp [World.cell?, h, h2]
/-- a new box with a struct in it -/
theorem box_new {P : Program} (W : World) (t : TypeId) (zero cells : Array Value) (hi : (P.info? t).map (·.size) = some cells.size) (ho : zero.size = cells.size) (h1 : cells.all (·.oneCell') = true) :
    (Instr.storeAt t (.pointer (some ⟨W.heap.size, 0, none⟩)) (.agg cells)).run P (W.alloc (.cells zero t)) = .ok () ((W.alloc (.cells zero t)).setRow W.heap.size cells) ∧
      ((W.alloc (.cells zero t)).setRow W.heap.size cells).heap[W.heap.size]? = some (.cells cells t (0, 0)) ∧ Ext W ((W.alloc (.cells zero t)).setRow W.heap.size cells) := by
  have hB := heap_alloc_new W (.cells zero t)
  have hst := run_storeAt_blk (P := P) (W.alloc (.cells zero t)) W.heap.size t t _ cells hB hi ho h1
  exact ⟨hst, setRow_heap _ _ _ _ _ _ hB, ((Ext.refl W).alloc _).grown (gsetRow _ _ _) (fun k e => by cases e; exact Nat.le_refl _)⟩
structure LRow where
  addr : Int
  ctx : Int
  stmt : Int
  mark : Bool
def lrowCells (r : LRow) : List Value := [.int .i64 r.addr, .int .i64 r.ctx, .int .i64 r.stmt, .bool r.mark]
structure LTab where
  lo : Int
  hi : Int
  rows : List LRow
def ltabCells (z : LTab × Value) : List Value := [.int .i64 z.1.lo, .int .i64 z.1.hi, z.2]
def LTabs (w : World) (v : Value) (l : List LTab) : Prop := ∃ zs : List (LTab × Value), zs.map Prod.fst = l ∧ InR ltabCells w v zs ∧ ∀ z ∈ zs, InR lrowCells w z.2 z.1.rows
theorem LTabs.ext {w w' : World} {v : Value} {l : List LTab} (h : LTabs w v l) (he : Ext w w') : LTabs w' v l := by
  obtain ⟨zs, h1, h2, h3⟩ := h
  exact ⟨zs, h1, h2.ext he, fun z hz => (h3 z hz).ext he⟩
theorem LTabs.nil (w : World) : LTabs w (.slice none 0 0) [] := ⟨[], rfl, InR.nil w, by simp⟩
theorem LTabs.form {w : World} {v : Value} {l : List LTab} (h : LTabs w v l) : ∃ A c, v = .slice A l.length c := by
  obtain ⟨zs, rfl, ⟨A, c, rfl, _⟩, _⟩ := h
  exact ⟨A, c, by simp⟩
theorem LTabs.at_ {w : World} {A : Option Addr} {n c : Nat} {l : List LTab} (h : LTabs w (.slice A n c) l) {j : Nat} (hj : j < l.length) :
    ∃ b off y, A = some ⟨b, off, none⟩ ∧ w.rangeAt b (off + j * 3) (ltabCells (l[j], y)) ∧ InR lrowCells w y l[j].rows := by
  obtain ⟨zs, rfl, h2, h3⟩ := h
  have hj' : j < zs.length := by simpa using hj
  obtain ⟨b, off, rfl, hr⟩ := h2.at_ (k := 3) (fun z hz => rfl) (by omega) hj'
  refine ⟨b, off, zs[j].2, rfl, ?_, ?_⟩
  · simpa using hr
  · have := h3 zs[j] (List.getElem_mem hj')
    simpa using this
section
variable {w : World}
theorem lrow_load {b o : Nat} {r : LRow} (h : w.rangeAt b o (lrowCells r)) : (Instr.loadAt 160 (.pointer (some ⟨b, o, none⟩))).run Try.prog w = .ok (.agg #[.int .i64 r.addr, .int .i64 r.ctx, .int .i64 r.stmt, .bool r.mark]) w :=
  run_loadAt_mid (P := Try.prog) w b o 160 _ _ h Try.underlying160 rfl (by kernel_rfl)
theorem rw_size : (Try.prog.info? 160).map (·.size) = some 4 := by kernel_rfl
theorem blkT {g : Nat} {a b c : Value} {t : TypeId} (H : w.heap[g]? = some (.cells #[a, b, c] t (0, 0))) :
    w.cell? ⟨g, 0, none⟩ = some a ∧ w.cell? ⟨g, 1, none⟩ = some b ∧ w.cell? ⟨g, 2, none⟩ = some c := ⟨blk_at H 0 _ rfl, blk_at H 1 _ rfl, blk_at H 2 _ rfl⟩
theorem blkR {g : Nat} {a b c d : Value} {t : TypeId} (H : w.heap[g]? = some (.cells #[a, b, c, d] t (0, 0))) :
    w.cell? ⟨g, 0, none⟩ = some a ∧ w.cell? ⟨g, 1, none⟩ = some b ∧ w.cell? ⟨g, 2, none⟩ = some c ∧ w.cell? ⟨g, 3, none⟩ = some d := ⟨blk_at H 0 _ rfl, blk_at H 1 _ rfl, blk_at H 2 _ rfl, blk_at H 3 _ rfl⟩
end
/-- a row may stand in a table: from an address on -/
def okRow (next hi : Int) (r : LRow) : Prop := (next ≤ r.addr ∧ r.addr < hi ∧ 0 ≤ r.ctx ∧ r.ctx ≤ 255 ∧ -1 ≤ r.stmt ∧ r.stmt ≤ 9999) ∧ (r.stmt = -1 → r.ctx = 0 ∧ r.mark = false)
def okRows (next hi : Int) : List LRow → Prop
  | [] => True
  | r :: l => okRow next hi r ∧ okRows (r.addr + 1) hi l
theorem okRows_len {hi : Int} : ∀ {l : List LRow} {next : Int}, okRows next hi l → l ≠ [] → next + l.length ≤ hi
  | [], _, _, h => absurd rfl h
  | [r], next, h, _ => by have := h.1.1; simp; omega
  | r :: s :: l, next, h, _ => by
    have h1 := h.1.1
    have h2 := okRows_len h.2 (by simp)
    simp only [List.length_cons] at *
    omega
def okTab (was : Int) (t : LTab) : Prop := was ≤ t.lo ∧ t.lo ≤ 1048576 ∧ t.lo ≤ t.hi ∧ t.hi ≤ 1048576
def okTabs (was : Int) : List LTab → Prop
  | [] => True
  | t :: l => okTab was t ∧ okRows t.lo t.hi t.rows ∧ okTabs t.hi l
def rowsN (l : List LTab) : Nat := (l.map fun t => t.rows.length).sum
/-- tables may be encoded -/
def RightL (l : List LTab) : Prop := l.length ≤ 8 ∧ okTabs 0 l ∧ rowsN l ≤ 8000
structure LTab.I (t : LTab) : Prop where
  lo : -9223372036854775808 ≤ t.lo ∧ t.lo ≤ 9223372036854775807
  hi : -9223372036854775808 ≤ t.hi ∧ t.hi ≤ 9223372036854775807
  len : t.rows.length ≤ 9223372036854775807
end Go.Proofs.Ytopanbcodfkedaa
