/- LinesPrograms: the plain law. The same rows, written with longer operations. -/
import Derived.Test.YtokmbdeafjmcjaaLinS
namespace Go.Proofs.Ytokmbdeafjmcjaa
open Go.RowKit
set_option linter.unusedVariables false

def opsLong (s r : LRow) : List LOp := [.up ((r.addr - s.addr) / 2), .ctx r.ctx, .more (r.stmt - s.stmt), .up (r.addr - s.addr - (r.addr - s.addr) / 2), if r.mark then .mark else .row]
def longRows (s : LRow) : List LRow → List LOp
  | [] => []
  | r :: l => opsLong s r ++ longRows r l
theorem opsLong_ok {s r : LRow} (hs : Small s) (hr : Small r) (hle : s.addr ≤ r.addr) : okOps s (opsLong s r) ∧ rowsOf s (opsLong s r) = [r] ∧ endS s (opsLong s r) = r := by
  have h1 := hs.addr
  have h2 := hs.stmt
  have h3 := hr.addr
  have h4 := hr.stmt
  have h5 := hr.ctx
  obtain ⟨sa, sc, ss, sm⟩ := s
  obtain ⟨ra, rc, rs, rm⟩ := r
  simp only at h1 h2 h3 h4 h5 hle
  obtain ⟨hf, hhf⟩ : ∃ hf, hf = (ra - sa) / 2 := ⟨_, rfl⟩
  have hb : 0 ≤ hf ∧ hf ≤ ra - sa := by omega
  have e1 : sa + hf + (ra - sa - hf) = ra := by omega
  have e2 : ss + (rs - ss) = rs := by omega
  unfold opsLong
  simp only
  rw [← hhf]
  cases rm
  · simp only [okOps, okOp, Bd, nextS, rowsOf, emit, endS, e1, e2, List.append_nil, List.nil_append, Bool.false_eq_true, if_false, and_true]
    omega
  · simp only [okOps, okOp, Bd, nextS, rowsOf, emit, endS, e1, e2, List.append_nil, List.nil_append, if_true, and_true]
    omega
theorem longRows_ok {hi : Int} (hh : hi ≤ 1048576) : ∀ (l : List LRow) {s : LRow} {nx : Int}, RowSt hi s nx l → okOps s (longRows s l) ∧ rowsOf s (longRows s l) = l
  | [], _, _, _ => ⟨trivial, rfl⟩
  | r :: l, s, nx, h => by
    obtain ⟨h1, h2, h3⟩ := h.next hh
    obtain ⟨a1, a2, a3⟩ := opsLong_ok h.1 h1 h2
    obtain ⟨b1, b2⟩ := longRows_ok hh l h3
    simp only [longRows]
    rw [okOps_app, rowsOf_app, a2, a3, b2]
    exact ⟨⟨a1, b1⟩, rfl⟩
def longs (l : List LTab) : List (LTab × List LOp) := l.map fun t => (t, longRows (row0 t.lo) t.rows)
theorem longs_fst (l : List LTab) : (longs l).map Prod.fst = l := by simp [longs, Function.comp_def]
theorem longs_ok {l : List LTab} (h : RightL l) : ∀ z ∈ longs l, Prg z := fun z hz => by
  obtain ⟨t, ht, rfl⟩ := List.mem_map.1 hz
  obtain ⟨h1, h2, h3⟩ := h.mem ht
  obtain ⟨a1, a2⟩ := longRows_ok h1.2.2 t.rows (s := row0 t.lo) (nx := t.lo) ⟨small0 (by omega), by simp [row0], h2⟩
  exact ⟨a1, a2⟩
/-- what Encode writes is no longer -/
theorem uint_half {u r : Int} (h0 : 0 ≤ r) (h1 : u ≤ 2 * r) (h2 : 0 ≤ u) : (uintB u).length ≤ (uintB r).length + 1 := by
  unfold uintB
  rw [if_neg (by omega), if_neg (by omega)]
  have h3 := leb_mono u.toNat (2 * r.toNat) (by omega)
  have h4 := (leb_double r.toNat).2
  omega
theorem encRow_short {s r : LRow} (hs : Small s) (hr : Small r) (hle : s.addr ≤ r.addr) : (encRow s r).length ≤ ((opsLong s r).flatMap opB).length := by
  have hu := uint_half (u := r.addr - s.addr) (r := r.addr - s.addr - (r.addr - s.addr) / 2) (by omega) (by omega) (by omega)
  have h1 : (ctxB s r).length ≤ 1 + (uintB r.ctx).length := by
    unfold ctxB
    split
    · simp
    · simp only [List.length_cons]; omega
  have h2 : (upB (r.addr - s.addr)).length ≤ 1 + (uintB (r.addr - s.addr)).length := by
    unfold upB
    split
    · simp only [List.length_cons]; omega
    · simp
  have h3 : (moreB (r.stmt - s.stmt)).length ≤ 1 + (leb (zig (r.stmt - s.stmt))).length := by
    unfold moreB
    split
    · simp
    · simp only [List.length_cons]; omega
  have h4 : (opB (if r.mark = true then LOp.mark else LOp.row)).length = 1 := by split <;> rfl
  have h5 : ((opsLong s r).flatMap opB).length = (1 + (uintB ((r.addr - s.addr) / 2)).length) + ((1 + (uintB r.ctx).length) + ((1 + (leb (zig (r.stmt - s.stmt))).length) + ((1 + (uintB (r.addr - s.addr - (r.addr - s.addr) / 2)).length) + 1))) := by
    unfold opsLong
    simp only [List.flatMap_cons, List.flatMap_nil, List.length_append, h4, List.append_nil]
    simp only [opB, List.length_cons]
    omega
  rw [h5]
  unfold encRow
  rw [List.length_append]
  split
  · simp only [List.length_cons, List.length_nil]; omega
  · simp only [List.length_append, List.length_cons, List.length_nil]; omega
theorem encRows_short {hi : Int} (hh : hi ≤ 1048576) : ∀ (l : List LRow) {s : LRow} {nx : Int}, RowSt hi s nx l → (encRows s l).length ≤ ((longRows s l).flatMap opB).length
  | [], _, _, _ => by simp [encRows, longRows]
  | r :: l, s, nx, h => by
    obtain ⟨h1, h2, h3⟩ := h.next hh
    have a := encRow_short h.1 h1 h2
    have b := encRows_short hh l h3
    simp only [encRows, longRows, List.flatMap_append, List.length_append]
    omega
/-- a table, written longer -/
theorem encTab_short {t : LTab} (h : 0 ≤ t.lo ∧ t.lo ≤ 1048576 ∧ t.hi ≤ 1048576) (h2 : RowSt t.hi (row0 t.lo) t.lo t.rows) : (encTab t).length ≤ (prgB (t, longRows (row0 t.lo) t.rows)).length := by
  have a := encRows_short h.2.2 t.rows h2
  unfold encTab prgB
  simp only [List.length_append, List.length_cons, List.length_nil]
  omega
theorem flat_le {α : Type} {f g : α → List UInt8} : ∀ (l : List α), (∀ x ∈ l, (f x).length ≤ (g x).length) → (l.flatMap f).length ≤ (l.flatMap g).length
  | [], _ => by simp
  | x :: l, h => by
    have a := h x List.mem_cons_self
    have b := flat_le l (fun y hy => h y (List.mem_cons_of_mem _ hy))
    simp only [List.flatMap_cons, List.length_append]
    omega
theorem encTabs_short {l : List LTab} (h : RightL l) : (encTabs l).length ≤ (uintB l.length ++ (longs l).flatMap prgB).length := by
  have a : (l.flatMap encTab).length ≤ (l.flatMap fun t => prgB (t, longRows (row0 t.lo) t.rows)).length := flat_le l fun t ht => by
    obtain ⟨h1, h2, h3⟩ := h.mem ht
    exact encTab_short ⟨by omega, by omega, h1.2.2⟩ ⟨small0 (by omega), by simp [row0], h2⟩
  unfold encTabs longs
  rw [List.flatMap_map]
  simp only [List.length_append]
  omega
end Go.Proofs.Ytokmbdeafjmcjaa
