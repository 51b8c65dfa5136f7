/- Entries of the tree of debug information: words in memory, what may be encoded. -/
import Derived.Test.YtopanbcodfkedaaLinA
namespace Go.Proofs.Ytopanbcodfkedaa
open Go.RowKit
set_option linter.unusedVariables false

def I64 (n : Int) : Prop := -9223372036854775808 ≤ n ∧ n ≤ 9223372036854775807
structure Att where
  name : Int
  form : Int
  value : Int
  text : ByteArray
def attCells (a : Att) : List Value := [.int .i64 a.name, .int .i64 a.form, .int .i64 a.value, .string a.text]
structure Ent where
  depth : Int
  tag : Int
  attrs : List Att
def entCells (z : Ent × Value) : List Value := [.int .i64 z.1.depth, .int .i64 z.1.tag, z.2]
def Ents (w : World) (v : Value) (l : List Ent) : Prop := ∃ zs : List (Ent × Value), zs.map Prod.fst = l ∧ InR entCells w v zs ∧ ∀ z ∈ zs, InR attCells w z.2 z.1.attrs
theorem Ents.form {w : World} {v : Value} {l : List Ent} (h : Ents w v l) : ∃ A c, v = .slice A l.length c := by
  obtain ⟨zs, rfl, ⟨A, c, rfl, _⟩, _⟩ := h
  exact ⟨A, c, by simp⟩
theorem Ents.ext {w w' : World} {v : Value} {l : List Ent} (h : Ents w v l) (he : Ext w w') : Ents w' v l := by
  obtain ⟨zs, h1, h2, h3⟩ := h
  exact ⟨zs, h1, h2.ext he, fun z hz => (h3 z hz).ext he⟩
theorem Ents.at_ {w : World} {A : Option Addr} {n c : Nat} {l : List Ent} (h : Ents w (.slice A n c) l) {j : Nat} (hj : j < l.length) :
    ∃ b off y, A = some ⟨b, off, none⟩ ∧ w.rangeAt b (off + j * 3) (entCells (l[j], y)) ∧ InR attCells w y l[j].attrs := by
  obtain ⟨zs, rfl, h2, h3⟩ := h
  have hj' : j < zs.length := by simpa using hj
  obtain ⟨b, off, rfl, hr⟩ := h2.at_ (k := 3) (fun z hz => rfl) (by omega) hj'
  exact ⟨b, off, zs[j].2, rfl, by simpa using hr, by simpa using h3 zs[j] (List.getElem_mem hj')⟩
/-- of the call's own -/
def EOwn (base : Nat) (w : World) (v : Value) (l : List Ent) : Prop := ∃ zs : List (Ent × Value), zs.map Prod.fst = l ∧ OwnR entCells 3 26 base w v zs ∧ ∀ z ∈ zs, OwnR attCells 4 40 base w z.2 z.1.attrs
section
variable {base base' : Nat} {w w' : World} {v : Value}
theorem EOwn.in_ {l : List Ent} (h : EOwn base w v l) : Ents w v l := by
  obtain ⟨zs, h1, h2, h3⟩ := h
  exact ⟨zs, h1, h2.inR, fun z hz => (h3 z hz).inR⟩
theorem EOwn.ext {l : List Ent} (h : EOwn base w v l) (he : Ext w w') : EOwn base w' v l := by
  obtain ⟨zs, h1, h2, h3⟩ := h
  exact ⟨zs, h1, h2.ext he, fun z hz => (h3 z hz).ext he⟩
theorem EOwn.low {l : List Ent} (h : EOwn base w v l) (hb : base' ≤ base) : EOwn base' w v l := by
  obtain ⟨zs, h1, h2, h3⟩ := h
  exact ⟨zs, h1, h2.low hb, fun z hz => (h3 z hz).low hb⟩
theorem EOwn.nil (base : Nat) (w : World) : EOwn base w (.slice none 0 0) [] := ⟨[], rfl, OwnR.nil w, by simp⟩
theorem att_load {b o : Nat} {p : Att} (h : w.rangeAt b o (attCells p)) : (Instr.loadAt 40 (.pointer (some ⟨b, o, none⟩))).run Try.prog w = .ok (.agg #[.int .i64 p.name, .int .i64 p.form, .int .i64 p.value, .string p.text]) w :=
  run_loadAt_mid (P := Try.prog) w b o 40 _ _ h Try.underlying40 rfl (by kernel_rfl)
theorem ent_load {b o : Nat} {t : Ent} {y : Value} (h : w.rangeAt b o (entCells (t, y))) : (Instr.loadAt 26 (.pointer (some ⟨b, o, none⟩))).run Try.prog w = .ok (.agg #[.int .i64 t.depth, .int .i64 t.tag, y]) w :=
  run_loadAt_mid (P := Try.prog) w b o 26 _ _ h Try.underlying26 rfl (by kernel_rfl)
theorem at_size : (Try.prog.info? 40).map (·.size) = some 4 := by kernel_rfl
theorem en_size : (Try.prog.info? 26).map (·.size) = some 3 := by kernel_rfl
theorem blk3 {g : Nat} {a b c : Value} {t : TypeId} (H : w.heap[g]? = some (.cells #[a, b, c] t (0, 0))) :
    w.cell? ⟨g, 0, none⟩ = some a ∧ w.cell? ⟨g, 1, none⟩ = some b ∧ w.cell? ⟨g, 2, none⟩ = some c := ⟨blk_at H 0 _ rfl, blk_at H 1 _ rfl, blk_at H 2 _ rfl⟩
end
theorem at_info : (Try.prog.info? 40).map (fun i => (i.zero, i.size, i.bytes)) = some (some (.agg #[.int .i64 0, .int .i64 0, .int .i64 0, .string ByteArray.empty]), 4, 40) := by kernel_rfl
theorem elem_at : ElemN Try.prog 24 40 4 40 := by
  rcases hi : Try.prog.info? 40 with _ | i
  · have := at_info; rw [hi] at this; cases this
  · have := at_info
    rw [hi] at this
    simp only [Option.map_some, Option.some.injEq, Prod.mk.injEq] at this
    exact ⟨Try.underlying24, by omega, i, _, hi, this.1, this.2.1, this.2.2, rfl⟩
theorem en_info : (Try.prog.info? 26).map (fun i => (i.zero, i.size, i.bytes)) = some (some (.agg #[.int .i64 0, .int .i64 0, .slice none 0 0]), 3, 40) := by kernel_rfl
theorem elem_en : ElemN Try.prog 22 26 3 40 := by
  rcases hi : Try.prog.info? 26 with _ | i
  · have := en_info; rw [hi] at this; cases this
  · have := en_info
    rw [hi] at this
    simp only [Option.map_some, Option.some.injEq, Prod.mk.injEq] at this
    exact ⟨Try.underlying22, by omega, i, _, hi, this.1, this.2.1, this.2.2, rfl⟩
/-! what may be encoded -/
def okAtt (a : Att) : Prop := (1 ≤ a.name ∧ a.name ≤ 63) ∧ ((a.form = 1 ∧ 0 ≤ a.value ∧ a.value ≤ 1099511627776 ∧ a.text = ByteArray.empty) ∨ (a.form = 2 ∧ a.text = ByteArray.empty) ∨ (a.form = 3 ∧ a.value = 0 ∧ a.text.size ≤ 40) ∨ (a.form = 4 ∧ a.value = 1 ∧ a.text = ByteArray.empty))
def okAtts (l : List Att) : Prop := l.length ≤ 12 ∧ (∀ a ∈ l, okAtt a) ∧ (l.map Att.name).Nodup
/-- an entry behind others -/
def okEnt (pre : List Ent) (e : Ent) : Prop := (match pre.getLast? with
  | none => e.depth = 0
  | some p => 1 ≤ e.depth ∧ e.depth ≤ 32 ∧ e.depth ≤ p.depth + 1) ∧ (1 ≤ e.tag ∧ e.tag ≤ 63) ∧ okAtts e.attrs
/-- entries may be encoded -/
def RightE (l : List Ent) : Prop := (1 ≤ l.length ∧ l.length ≤ 4000) ∧ ∀ i (h : i < l.length), okEnt (l.take i) l[i]
structure Att.I (a : Att) : Prop where
  value : I64 a.value
  form : I64 a.form
  text : a.text.size ≤ 9223372036854775807
structure Ent.I (e : Ent) : Prop where
  depth : I64 e.depth
  len : e.attrs.length ≤ 9223372036854775807
  attrs : ∀ a ∈ e.attrs, a.I
end Go.Proofs.Ytopanbcodfkedaa
