/- LinesPrograms: the bytes that the statement writes, piece by piece. No walk here. -/
import Derived.Test.YtokmbdeafjmcjaaLinT
namespace Go.Proofs.Ytokmbdeafjmcjaa
open Go.RowKit
set_option linter.unusedVariables false

/-- the bytes of a long row -/
def longB (s r : LRow) : List UInt8 := (1 :: uintB ((r.addr - s.addr) / 2)) ++ ((2 :: uintB r.ctx) ++ ((3 :: leb (zig (r.stmt - s.stmt))) ++ ((1 :: uintB (r.addr - s.addr - (r.addr - s.addr) / 2)) ++ [if r.mark then 5 else 4])))
theorem opsLong_B (s r : LRow) : (opsLong s r).flatMap opB = longB s r := by
  unfold opsLong longB
  cases r.mark <;> simp [opB]
def longsB (s : LRow) (l : List LRow) : List UInt8 := (longRows s l).flatMap opB
theorem longRows_snoc (r : LRow) : ∀ (l : List LRow) (s : LRow), longRows s (l ++ [r]) = longRows s l ++ opsLong (lastR s l) r
  | [], s => by simp [longRows, lastR]
  | x :: l, s => by
    simp only [List.cons_append, longRows, lastR]
    rw [longRows_snoc r l x, List.append_assoc]
theorem longsB_snoc (s r : LRow) (l : List LRow) : longsB s (l ++ [r]) = longsB s l ++ longB (lastR s l) r := by
  unfold longsB
  rw [longRows_snoc, List.flatMap_append, opsLong_B]
def longT (t : LTab) : List UInt8 := uintB t.lo ++ (uintB t.hi ++ (longsB (row0 t.lo) t.rows ++ [0]))
def longTs (n : Nat) (l : List LTab) : List UInt8 := uintB n ++ l.flatMap longT
theorem longs_B (l : List LTab) : (longs l).flatMap prgB = l.flatMap longT := by
  unfold longs
  rw [List.flatMap_map]
  rfl
theorem longTs_snoc (n : Nat) (l : List LTab) (t : LTab) : longTs n (l ++ [t]) = longTs n l ++ longT t := by
  unfold longTs
  rw [List.flatMap_append, ← List.append_assoc]
  simp
theorem longB_len {s r : LRow} (hs : Small s) (hr : Small r) (hle : s.addr ≤ r.addr) : (longB s r).length ≤ 60 := by
  have h1 := hs.addr
  have h2 := hs.stmt
  have h3 := hr.addr
  have h4 := hr.stmt
  have h5 := hr.ctx
  have a := uintB_len (v := (r.addr - s.addr) / 2) (by omega)
  have b := uintB_len (v := r.ctx) (by omega)
  have c := leb_len10 (zig_lt (v := r.stmt - s.stmt) (by omega) (by omega))
  have d := uintB_len (v := r.addr - s.addr - (r.addr - s.addr) / 2) (by omega)
  unfold longB
  simp only [List.length_append, List.length_cons, List.length_nil]
  omega
theorem longsB_len {hi : Int} (hh : hi ≤ 1048576) : ∀ (l : List LRow) {s : LRow} {nx : Int}, RowSt hi s nx l → (longsB s l).length ≤ 60 * l.length
  | [], _, _, _ => by simp [longsB, longRows]
  | r :: l, s, nx, h => by
    obtain ⟨h1, h2, h3⟩ := h.next hh
    have a := longB_len h.1 h1 h2
    have b := longsB_len hh l h3
    unfold longsB at b ⊢
    simp only [longRows, List.flatMap_append, List.length_append, opsLong_B, List.length_cons]
    omega
end Go.Proofs.Ytokmbdeafjmcjaa
