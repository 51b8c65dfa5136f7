/- Own words for memory and plain lemmas, used by all walks of this seat. No statement about the program. -/
import Derived.WalkKit
import Derived.Below
import Derived.Lib.Hide
import Derived.Maps.AppendAt
import Derived.Deep.AppendLies
import Derived.Deep.Draws
import Derived.Deep.AppendSrc
import Derived.Deep.Upon
import Derived.Lib.LazyBuf
import Derived.Deep.QuietTactic
import Derived.BigQuiet
import Derived.WalkSpells
import Derived.WalkLawsBesides
import Derived.Deep.DeepFit
import Derived.Laws.BytesArg
import Derived.KernelRfl
namespace Go.Proofs.Ytopanbcodfkedaa
open Go.RowKit

/-- a byte as a value -/
def bv (b : UInt8) : Value := .int .u8 (b.toNat : Int)

/-- everything that was there is as it was -/
def Ext (w w' : World) : Prop := Below w.heap.size w w'
theorem Ext.refl (w : World) : Ext w w := Below.refl _ _
theorem Ext.trans {a b c : World} (h : Ext a b) (k : Ext b c) : Ext a c := Below.trans h (Below.mono k (Below.size h))
theorem Ext.size {a b : World} (h : Ext a b) : a.heap.size ≤ b.heap.size := Below.size h
theorem Ext.drew {a b : World} (h : Ext a b) : Ext a b.drew := Below.drew h
theorem Ext.drewN {a b : World} (h : Ext a b) (n : Nat) : Ext a (b.drewN n) := ⟨h.os, h.tape, h.output, h.size, h.block⟩
theorem Ext.alloc {a b : World} (h : Ext a b) (o : Obj) : Ext a (b.alloc o) := Below.alloc h h.size o
theorem Ext.setCell {a b : World} (h : Ext a b) {p : Addr} (hp : a.heap.size ≤ p.block) (u : Value) : Ext a (b.setCell p u) := Below.setCell h hp u
theorem Ext.grown {a b c : World} {row : Option Nat} (h : Ext a b) (hg : b.grownBy c row) (hr : ∀ k, row = some k → a.heap.size ≤ k) : Ext a c := Below.grown h hg h.size hr
theorem Ext.cell {a b : World} (h : Ext a b) {p : Addr} {u : Value} (hc : a.cell? p = some u) : b.cell? p = some u :=
  (Below.cell h (World.block_lt_of_cell? a p hc)).trans hc
theorem Ext.heap {a b : World} (h : Ext a b) {g : Nat} {o : Obj} (hc : a.heap[g]? = some o) : b.heap[g]? = some o := by
  have hg : g < a.heap.size := by
    rcases Nat.lt_or_ge g a.heap.size with h | h
    · exact h
    · rw [Array.getElem?_eq_none h] at hc; cases hc
  exact (Below.block h g hg).trans hc
theorem Ext.ownsRow {a b : World} (h : Ext a b) {base : Nat} {e : TypeId} {size : Nat} {v : Value} {n : Nat} {xs : List Value} (ho : a.ownsRow base e size v n xs) : b.ownsRow base e size v n xs := by
  refine ⟨ho.1, ?_⟩
  rcases ho.2 with h2 | ⟨g, cap, cur, hv, hg, hh, r⟩
  · exact Or.inl h2
  · exact Or.inr ⟨g, cap, cur, hv, hg, h.heap hh, r⟩

/-- the slice with this address holds the cells xs -/
def Rd (w : World) (A : Option Addr) (xs : List Value) : Prop := ∀ j u, xs[j]? = some u → ∃ ad, A = some ad ∧ w.cell? (ad.add j) = some u
theorem Rd.nil {w : World} {A : Option Addr} : Rd w A [] := fun j u h => by simp at h
theorem Rd.ext {w w' : World} {A : Option Addr} {xs : List Value} (h : Rd w A xs) (he : Ext w w') : Rd w' A xs := fun j u hu => by
  obtain ⟨ad, ha, hc⟩ := h j u hu
  exact ⟨ad, ha, he.cell hc⟩
theorem Rd.at_ {w : World} {A : Option Addr} {xs : List Value} (h : Rd w A xs) {k : Nat} (hk : k < xs.length) : ∃ ad, A = some ad ∧ w.cell? (ad.add k) = some xs[k] :=
  h k _ (List.getElem?_eq_getElem hk)
theorem Rd.at2 {w : World} {A : Option Addr} {xs : List Value} (h : Rd w A xs) {k : Nat} (hk : k < xs.length) : ∃ b off, A = some ⟨b, off, none⟩ ∧ w.cell? ⟨b, off + k, none⟩ = some xs[k] := by
  obtain ⟨ad, rfl, h0⟩ := h.at_ (k := 0) (by omega)
  obtain ⟨ad', e, hk'⟩ := h.at_ hk
  cases e
  obtain ⟨b, off, spot⟩ := ad
  have hs : spot = none := by simpa [Addr.add] using World.cell?_spot h0
  subst hs
  refine ⟨b, off, rfl, ?_⟩
  rw [← hk']
  unfold Addr.add
  split
  · rename_i hz; subst hz; rfl
  · rfl
theorem Rd.lt {w : World} {ad : Addr} {xs : List Value} (h : Rd w (some ad) xs) (hx : 0 < xs.length) : ad.block < w.heap.size := by
  obtain ⟨ad', e, hc⟩ := h.at_ hx
  cases e
  have := World.block_lt_of_cell? w _ hc
  simpa [Addr.add] using this
theorem Rd.byte {w : World} {A : Option Addr} {l : List UInt8} (h : Rd w A (l.map bv)) {k : Nat} (hk : k < l.length) : ∃ b off, A = some ⟨b, off, none⟩ ∧ w.cell? ⟨b, off + k, none⟩ = some (.int .u8 (l[k].toNat : Int)) := by
  obtain ⟨b, off, e, hc⟩ := h.at2 (k := k) (by simpa using hk)
  exact ⟨b, off, e, by rw [hc]; simp [bv]⟩
theorem add_add (a : Addr) (i j : Nat) : (a.add i).add j = a.add (i + j) := by
  unfold Addr.add
  by_cases hi : i = 0 <;> by_cases hj : j = 0 <;> simp [hi, hj, Nat.add_assoc]
theorem Rd.drop {w : World} {ad : Addr} {xs : List Value} (h : Rd w (some ad) xs) (k : Nat) : Rd w (some (ad.add k)) (xs.drop k) := fun j u hu => by
  rw [List.getElem?_drop] at hu
  obtain ⟨ad', ha, hc⟩ := h _ u hu
  cases ha
  exact ⟨_, rfl, by rw [add_add]; exact hc⟩
theorem Rd.take {w : World} {A : Option Addr} {xs : List Value} (h : Rd w A xs) (k : Nat) : Rd w A (xs.take k) := fun j u hu => by
  rw [List.getElem?_take] at hu
  split at hu
  · exact h j u hu
  · cases hu
theorem Rd.own {w : World} {base : Nat} {e : TypeId} {size n c : Nat} {A : Option Addr} {xs : List Value} (h : w.ownsRow base e size (.slice A n c) n xs) : Rd w A xs := fun j u hu => by
  rcases h.2 with ⟨hv, h0⟩ | ⟨g, cap, cur, hv, _⟩
  · subst h0
    have : xs = [] := List.eq_nil_of_length_eq_zero (by simpa using h.1)
    subst this
    simp at hu
  · injection hv with hA
    subst hA
    exact ⟨_, rfl, h.cells (g := g) rfl j u hu⟩

/-- the value is a slice that reads as this list -/
def InV {α : Type} (f : α → Value) (w : World) (x : Value) (l : List α) : Prop := ∃ A c, x = .slice A l.length c ∧ l.length ≤ c ∧ Rd w A (l.map f)
theorem InV.ext {α : Type} {f : α → Value} {w w' : World} {x : Value} {l : List α} (h : InV f w x l) (he : Ext w w') : InV f w' x l := by
  obtain ⟨A, c, rfl, hc, hr⟩ := h
  exact ⟨A, c, rfl, hc, hr.ext he⟩
theorem InV.mk {α : Type} {f : α → Value} {w : World} {A : Option Addr} {c : Nat} {l : List α} (hc : l.length ≤ c) (h : Rd w A (l.map f)) : InV f w (.slice A l.length c) l := ⟨A, c, rfl, hc, h⟩
theorem InV.nil {α : Type} {f : α → Value} (w : World) : InV f w (.slice none 0 0) [] := ⟨none, 0, rfl, Nat.le_refl _, Rd.nil⟩
/-- bytes; ints; bools -/
abbrev InB (w : World) (x : Value) (l : List UInt8) : Prop := InV bv w x l
def iv (n : Int) : Value := .int .i64 n
abbrev InI (w : World) (x : Value) (l : List Int) : Prop := InV iv w x l
abbrev InBl (w : World) (x : Value) (l : List Bool) : Prop := InV Value.bool w x l

theorem run_slice_lh {P : Program} {t e : TypeId} {i : TypeInfo} (ht : P.underlying t = some (.slice e)) (hi : P.info? e = some i) (A : Option Addr) (n c lo hi' : Nat) (h1 : lo ≤ hi') (h2 : hi' ≤ c) (w : World) :
    (Instr.slice t (.slice A n c) (some (.int .i64 (lo : Int))) (some (.int .i64 (hi' : Int))) none).run P w = .ok (.slice (if c = lo then A else A.map (·.add (lo * i.size))) (hi' - lo) (c - lo)) w := by
  simp [Instr.slice, run_underlying ht, Instr.sliceBounds, Instr.sliceBound, asIntOf, h1, h2, sizeOf, typeInfo, hi]
theorem Rd.sub {w : World} {A : Option Addr} {xs : List Value} (h : Rd w A xs) (c lo : Nat) (hc : c = lo → xs.drop lo = []) : Rd w (if c = lo then A else A.map (·.add lo)) (xs.drop lo) := by
  by_cases e : c = lo
  · rw [if_pos e, hc e]; exact Rd.nil
  · rw [if_neg e]
    intro j u hu
    rw [List.getElem?_drop] at hu
    obtain ⟨ad, rfl, hc⟩ := h _ u hu
    exact ⟨_, rfl, by rw [add_add]; exact hc⟩
/-- x[lo:hi] of bytes -/
theorem InV.cut {α : Type} {f : α → Value} {P : Program} {t e : TypeId} {i : TypeInfo} (ht : P.underlying t = some (.slice e)) (hi : P.info? e = some i) (hs : i.size = 1) {w : World} {x : Value} {l : List α} (hx : InV f w x l) (lo hi' : Nat) (h1 : lo ≤ hi') (h2 : hi' ≤ l.length) :
    ∃ y, (∀ W, (Instr.slice t x (some (.int .i64 (lo : Int))) (some (.int .i64 (hi' : Int))) none).run P W = .ok y W) ∧ InV f w y ((l.drop lo).take (hi' - lo)) := by
  obtain ⟨A, c, rfl, hc, hr⟩ := hx
  refine ⟨_, fun W => run_slice_lh ht hi A _ c lo hi' h1 (by omega) W, ?_⟩
  rw [hs, Nat.mul_one]
  have hl : ((l.drop lo).take (hi' - lo)).length = hi' - lo := by simp; omega
  refine ⟨_, c - lo, by rw [hl], by omega, ?_⟩
  rw [List.map_take, List.map_drop]
  exact (hr.sub c lo (fun e => List.drop_of_length_le (by simp; omega))).take _
theorem run_slice_h {P : Program} {t e : TypeId} {i : TypeInfo} (ht : P.underlying t = some (.slice e)) (hi : P.info? e = some i) (A : Option Addr) (n c hi' : Nat) (h2 : hi' ≤ c) (w : World) :
    (Instr.slice t (.slice A n c) none (some (.int .i64 (hi' : Int))) none).run P w = .ok (.slice (if c = 0 then A else A.map (·.add (0 * i.size))) hi' c) w := by
  simp [Instr.slice, run_underlying ht, Instr.sliceBounds, Instr.sliceBound, asIntOf, h2, sizeOf, typeInfo, hi]
/-- x[:hi] -/
theorem InV.pre {α : Type} {f : α → Value} {P : Program} {t e : TypeId} {i : TypeInfo} (ht : P.underlying t = some (.slice e)) (hi : P.info? e = some i) (hs : i.size = 1) {w : World} {x : Value} {l : List α} (hx : InV f w x l) (hi' : Nat) (h2 : hi' ≤ l.length) :
    ∃ A c, (∀ W, (Instr.slice t x none (some (.int .i64 (hi' : Int))) none).run P W = .ok (.slice A hi' c) W) ∧ InV f w (.slice A hi' c) (l.take hi') := by
  obtain ⟨A, c, rfl, hc, hr⟩ := hx
  refine ⟨_, c, fun W => run_slice_h ht hi A _ c hi' (by omega) W, ?_⟩
  have hl : (l.take hi').length = hi' := by simp; omega
  refine ⟨_, c, by rw [hl], by omega, ?_⟩
  rw [hs, Nat.mul_one, List.map_take]
  have h := hr.sub c 0 (fun e => by
    have : l = [] := List.eq_nil_of_length_eq_zero (by omega)
    subst this; rfl)
  rw [List.drop_zero] at h
  exact h.take _
/-- string(x) of bytes -/
theorem InV.str {P : Program} {t e d : TypeId} (ht : P.underlying t = some (.slice e)) (he : P.underlying e = some (.int .u8)) (hd : P.underlying d = some .string) {w : World} {x : Value} {l : List UInt8} (hx : InB w x l) :
    (convert t d x).run P w = .ok (.string ⟨l.toArray⟩) w := by
  obtain ⟨A, c, rfl, hc, hr⟩ := hx
  by_cases h0 : l.length = 0
  · have : l = [] := List.eq_nil_of_length_eq_zero h0
    subst this
    rcases A with _ | ⟨b, off, spot⟩
    · exact run_convert_bytes_nil w t e ht he _ _ d hd
    · rw [List.length_nil, run_convert_bytes_string w t d e _ _ c ht he hd, run_bytesToString w ⟨b, off, spot⟩ 0 c [] (by simp [loadCells, loadCellsFrom])]
      rfl
  · obtain ⟨b, off, rfl, _⟩ := hr.byte (k := 0) (by omega)
    rw [run_convert_bytes_arg w t e ht he b off l.length c (l.map fun b => ((b.toNat : Nat) : Int)) (by simp) (fun i hi => by
      obtain ⟨b', off', e', hc'⟩ := hr.byte hi
      cases e'
      rw [hc']
      simp [List.getElem?_eq_getElem hi]) d hd]
    congr 2
    apply ByteArray.ext
    apply Array.ext'
    rw [strOfNums_data]
    simp [Function.comp_def]

/-- append of one cell or of a list onto a row of the call's own, the source nil or not -/
theorem run_append_rd {P : Program} (w : World) (base : Nat) (t ty e : TypeId) (i : TypeInfo) (z : Value) (size bytes : Nat) (ht : P.underlying t = some (.slice e)) (hi : P.info? e = some i) (hz : i.zero = some z)
    (hsize : i.size = size) (hby : i.bytes = bytes) (hzs : z.cells.size = size) (hsz : 0 < size)
    (v : Value) (n : Nat) (xs : List Value) (hown : w.ownsRow base e size v n xs)
    (A : Option Addr) (m c : Nat) (news : List Value) (hl : news.length = m * size) (hr : Rd w A news) (h1 : ∀ u ∈ news, u.oneCell' = true)
    (h63 : n + m ≤ maxLen) (hbytes : (n + m) * bytes ≤ 140737488355328) (hbase : base ≤ w.heap.size) :
    ∃ v' w', (Builtin.append_ #[t, t] ty #[v, .slice A m c]).run P w = .ok v' w' ∧ w'.ownsRow base e size v' (n + m) (xs ++ news) ∧ w.grownBy w' v.ownBlock ∧
      (v'.ownBlock = v.ownBlock ∨ v'.ownBlock = some w.heap.size) := by
  rcases Nat.eq_zero_or_pos m with h0 | h0
  · subst h0
    have hn : news = [] := List.eq_nil_of_length_eq_zero (by simpa using hl)
    subst hn
    rcases A with _ | ad
    · refine ⟨v, w, ?_, by simpa using hown, ⟨rfl, rfl, rfl, Nat.le_refl _, fun _ _ _ => rfl⟩, .inl rfl⟩
      rcases hown.2 with ⟨rfl, rfl⟩ | ⟨g, cap, cur, rfl, _, _, hnc, _⟩
      · simp [Builtin.append_, run_underlying ht, sizeOf, typeInfo, hi, Builtin.lenOf, Builtin.firstCells]
      · simp [Builtin.append_, run_underlying ht, sizeOf, typeInfo, hi, Builtin.lenOf, Builtin.firstCells, hnc, storeCells]
    · obtain ⟨v', w', hrun, h2, h3, _, h5⟩ := run_append_own_at (P := P) w base t ty e i z size bytes ht hi hz hsize hby hzs hsz v n xs hown ad 0 c [] hl (by simp) h1 h63 hbytes hbase
      exact ⟨v', w', hrun, h2, h3, h5⟩
  · have hlen : 0 < news.length := by rw [hl]; exact Nat.mul_pos h0 hsz
    obtain ⟨ad, rfl, _⟩ := hr.at_ hlen
    have hcells : ∀ j u, news[j]? = some u → w.cell? (ad.add j) = some u := fun j u hu => by
      obtain ⟨ad', h, hc⟩ := hr j u hu
      cases h
      exact hc
    obtain ⟨v', w', hrun, h2, h3, _, h5⟩ := run_append_own_at (P := P) w base t ty e i z size bytes ht hi hz hsize hby hzs hsz v n xs hown ad m c news hl hcells h1 h63 hbytes hbase
    exact ⟨v', w', hrun, h2, h3, h5⟩

theorem wp_append_rd {P : Program} {w : World} {o : Oper} {a : Act} {K : Act → World → Prop} {Q : Exit → Act → World → Prop} (s x : Operand) (t : TypeId)
    (ho : o.op = .call { callee := .builtin .append, args := #[s, x], argTypes := #[t, t] })
    (base : Nat) (e : TypeId) (i : TypeInfo) (z : Value) (size bytes : Nat) (ht : P.underlying t = some (.slice e)) (hi : P.info? e = some i) (hz : i.zero = some z)
    (hsize : i.size = size) (hby : i.bytes = bytes) (hzs : z.cells.size = size) (hsz : 0 < size)
    (v : Value) (n : Nat) (xs : List Value) (hs : a.eval s = v) (hown : w.ownsRow base e size v n xs)
    (A : Option Addr) (m c : Nat) (news : List Value) (hx : a.eval x = .slice A m c) (hl : news.length = m * size) (hr : Rd w A news) (h1 : ∀ u ∈ news, u.oneCell' = true)
    (h63 : n + m ≤ maxLen) (hbytes : (n + m) * bytes ≤ 140737488355328) (hbase : base ≤ w.heap.size)
    (h : ∀ v' w', w'.ownsRow base e size v' (n + m) (xs ++ news) → w.grownBy w' v.ownBlock → (v'.ownBlock = v.ownBlock ∨ v'.ownBlock = some w.heap.size) → K (a.put o.dst v') w') : o.wp P a w K Q := by
  obtain ⟨v', w', hrun, h2, h3, h4⟩ := run_append_rd (P := P) w base t o.type e i z size bytes ht hi hz hsize hby hzs hsz v n xs hown A m c news hl hr h1 h63 hbytes hbase
  unfold Oper.wp execOp
  simp only [ho, resolve, invoke, builtin, Sem.run_bind, Sem.run_pure, Result.andThen_ok, List.map_toArray, List.map_cons, List.map_nil, hs, hx, hrun]
  exact h v' w' h2 h3 h4
theorem wpList_append_rd {P : Program} {w : World} {ops : Array Oper} {rest : List Oper} {o : Oper} {a : Act} {Q : Exit → Act → World → Prop} (hgd : o.guard = none) (s x : Operand) (t : TypeId)
    (ho : o.op = .call { callee := .builtin .append, args := #[s, x], argTypes := #[t, t] })
    (base : Nat) (e : TypeId) (i : TypeInfo) (z : Value) (size bytes : Nat) (ht : P.underlying t = some (.slice e)) (hi : P.info? e = some i) (hz : i.zero = some z)
    (hsize : i.size = size) (hby : i.bytes = bytes) (hzs : z.cells.size = size) (hsz : 0 < size)
    (v : Value) (n : Nat) (xs : List Value) (hs : a.eval s = v) (hown : w.ownsRow base e size v n xs)
    (A : Option Addr) (m c : Nat) (news : List Value) (hx : a.eval x = .slice A m c) (hl : news.length = m * size) (hr : Rd w A news) (h1 : ∀ u ∈ news, u.oneCell' = true)
    (h63 : n + m ≤ maxLen) (hbytes : (n + m) * bytes ≤ 140737488355328) (hbase : base ≤ w.heap.size)
    (h : ∀ v' w', w'.ownsRow base e size v' (n + m) (xs ++ news) → w.grownBy w' v.ownBlock → (v'.ownBlock = v.ownBlock ∨ v'.ownBlock = some w.heap.size) → wpList P ops Q rest (a.put o.dst v') w') : wpList P ops Q (o :: rest) a w :=
  wpList_plain hgd fun _ hK => wp_append_rd s x t ho base e i z size bytes ht hi hz hsize hby hzs hsz v n xs hs hown A m c news hx hl hr h1 h63 hbytes hbase fun v' w' h2 h3 h4 => hK _ _ (h v' w' h2 h3 h4)

/-- from w to w' only the row of v was written, and v' is that row or a new one -/
structure Grew (w w' : World) (v v' : Value) : Prop where
  grown : w.grownBy w' v.ownBlock
  lies : v'.ownBlock = v.ownBlock ∨ ∃ g, v'.ownBlock = some g ∧ w.heap.size ≤ g
theorem Grew.refl (w : World) (v : Value) : Grew w w v v := ⟨⟨rfl, rfl, rfl, Nat.le_refl _, fun _ _ _ => rfl⟩, .inl rfl⟩
theorem Grew.of_append {w w' : World} {v v' : Value} (hg : w.grownBy w' v.ownBlock) (h : v'.ownBlock = v.ownBlock ∨ v'.ownBlock = some w.heap.size) : Grew w w' v v' :=
  ⟨hg, h.imp id fun h => ⟨_, h, Nat.le_refl _⟩⟩
theorem Grew.trans {a b c : World} {u v x : Value} (h : Grew a b u v) (k : Grew b c v x) : Grew a c u x := by
  have hs := h.grown.size
  refine ⟨⟨k.grown.os.trans h.grown.os, k.grown.tape.trans h.grown.tape, k.grown.output.trans h.grown.output, Nat.le_trans hs k.grown.size, fun i hi hne => ?_⟩, ?_⟩
  · refine (k.grown.block i (by omega) ?_).trans (h.grown.block i hi hne)
    rcases h.lies with e | ⟨g, e, hg⟩
    · rw [e]; exact hne
    · rw [e]; intro e2; injection e2 with e2; omega
  · rcases k.lies with e | ⟨g, e, hg⟩
    · rw [e]; exact h.lies
    · exact .inr ⟨g, e, by omega⟩
theorem Grew.alloc {a b : World} {u v : Value} (h : Grew a b u v) (o : Obj) : Grew a (b.alloc o) u v :=
  h.trans ⟨World.grownBy_alloc b o _, .inl rfl⟩
theorem Grew.drew {a b : World} {u v : Value} (h : Grew a b u v) : Grew a b.drew u v :=
  ⟨⟨h.grown.os, h.grown.tape, h.grown.output, h.grown.size, h.grown.block⟩, h.lies⟩
theorem Grew.ext {w0 a b : World} {u v : Value} (h : Grew a b u v) (he : Ext w0 a) (hu : ∀ k, u.ownBlock = some k → w0.heap.size ≤ k) : Ext w0 b := he.grown h.grown hu
theorem Grew.ge {a b : World} {u v : Value} {B : Nat} (h : Grew a b u v) (hB : B ≤ a.heap.size) (hu : ∀ k, u.ownBlock = some k → B ≤ k) : ∀ k, v.ownBlock = some k → B ≤ k := by
  intro k hk
  rcases h.lies with e | ⟨g, e, hg⟩
  · exact hu k (e ▸ hk)
  · rw [e] at hk; injection hk with hk; omega
theorem Grew.rd {a b : World} {u v : Value} {A : Option Addr} {xs : List Value} (h : Grew a b u v) (hr : Rd a A xs) (hne : ∀ ad, A = some ad → some ad.block ≠ u.ownBlock) : Rd b A xs := fun j x hj => by
  obtain ⟨ad, rfl, hc⟩ := hr j x hj
  refine ⟨ad, rfl, h.grown.cell hc ?_⟩
  have hb : (ad.add j).block = ad.block := by unfold Addr.add; split <;> rfl
  rw [hb]
  exact hne ad rfl
theorem Rd.one (w : World) (x : Value) (t : TypeId) : Rd (w.alloc (.cells #[x] t)) (some ⟨w.heap.size, 0, none⟩) [x] := fun j u hu =>
  ⟨_, rfl, cell_one_new w x t j u hu⟩

theorem setCells_block (g : Nat) (e : TypeId) (fr : Nat × Nat) : ∀ (vs : List Value) (o : Nat) (w : World) (cur : Array Value), w.heap[g]? = some (.cells cur e fr) → o + vs.length ≤ cur.size →
    ∃ cur', (w.setCells g o vs).heap[g]? = some (.cells cur' e fr) ∧ cur'.size = cur.size ∧ ∀ j, cur'[j]? = if o ≤ j ∧ j < o + vs.length then vs[j - o]? else cur[j]?
  | [], o, w, cur, h, _ => ⟨cur, h, rfl, fun j => by rw [if_neg (by simp)]⟩
  | v :: vs, o, w, cur, h, hl => by
    have h1 : (w.setCell ⟨g, o, none⟩ v).heap[g]? = some (.cells (cur.setIfInBounds o v) e fr) := by simp [World.setCell, Array.getElem?_modify, h]
    simp only [List.length_cons] at hl
    obtain ⟨cur', a1, a2, a3⟩ := setCells_block g e fr vs (o + 1) _ _ h1 (by simp; omega)
    refine ⟨cur', a1, by simpa using a2, fun j => ?_⟩
    rw [a3 j]
    simp only [List.length_cons]
    by_cases hj : j = o
    · subst hj
      rw [if_neg (by omega), if_pos (by omega), Nat.sub_self, Array.getElem?_setIfInBounds_self_of_lt (by omega)]
      rfl
    · by_cases hin : o + 1 ≤ j ∧ j < o + 1 + vs.length
      · rw [if_pos hin, if_pos (by omega)]
        obtain ⟨d, rfl⟩ : ∃ d, j = o + 1 + d := ⟨j - (o + 1), by omega⟩
        rw [show o + 1 + d - (o + 1) = d by omega, show o + 1 + d - o = d + 1 by omega]
        rfl
      · rw [if_neg hin, if_neg (by omega), Array.getElem?_setIfInBounds_ne (by omega)]

/-- append onto a row of the call's own, whatever the source -/
theorem run_append_src {P : Program} (w : World) (base : Nat) (t tx ty e : TypeId) (i : TypeInfo) (z : Value) (size bytes : Nat) (ht : P.underlying t = some (.slice e)) (hi : P.info? e = some i) (hz : i.zero = some z)
    (hsize : i.size = size) (hby : i.bytes = bytes) (hzs : z.cells.size = size)
    (v : Value) (n : Nat) (xs : List Value) (hown : w.ownsRow base e size v n xs)
    (x : Value) (m : Nat) (news : List Value) (hs : Src P size tx x m news w)
    (h63 : n + m ≤ maxLen) (hbytes : (n + m) * bytes ≤ 140737488355328) (hbase : base ≤ w.heap.size) :
    ∃ v' w', (Builtin.append_ #[t, tx] ty #[v, x]).run P w = .ok v' w' ∧ w'.ownsRow base e size v' (n + m) (xs ++ news) ∧ w.grownBy w' v.ownBlock ∧
      (v'.ownBlock = v.ownBlock ∨ v'.ownBlock = some w.heap.size) := by
  subst hsize
  subst hby
  have hsmall : n + m ≤ 9223372036854775807 := by simp only [maxLen] at h63; omega
  have hlen : (xs ++ news).length = (n + m) * i.size := by rw [List.length_append, hown.1, hs.newsLen, Nat.add_mul]
  have grows : ∀ (A : Option Addr) (cap : Nat), v = .slice A n cap → cap < n + m → (Builtin.firstCells i.size n (.slice A n cap)).run P w.drew = .ok xs.toArray w.drew →
      ∃ v' w', (Builtin.append_ #[t, tx] ty #[v, x]).run P w = .ok v' w' ∧ w'.ownsRow base e i.size v' (n + m) (xs ++ news) ∧ w.grownBy w' v.ownBlock ∧ (v'.ownBlock = v.ownBlock ∨ v'.ownBlock = some w.heap.size) := by
    intro A cap hv hcap hold
    subst hv
    have hr := run_append_grow_src (P := P) w t tx ty e i z ht hi hz A n cap xs hold x m news hs hcap (by omega) (growslice_fits (by omega) hbytes)
    have hge := grownCap_ge w (n + m) cap e
    have hcm : grownCap w (n + m) cap e ≤ maxLen := grownCap_le_maxLen w (n + m) cap e h63
    refine ⟨_, _, hr, ⟨hlen, .inr ⟨w.heap.size, _, _, rfl, hbase, heap_alloc_new w.drew _, hge, hcm, ?_, ?_⟩⟩, ⟨rfl, rfl, rfl, by simp, fun k hk _ => Below.heap_alloc w.drew _ k hk⟩, .inr rfl⟩
    · simp only [Array.size_append, List.size_toArray, size_zeroCells, hzs, hlen, ← Nat.add_mul]
      congr 1
      omega
    · simp only [Array.toList_append]
      rw [← hlen]
      exact List.take_left
  rcases hown.2 with ⟨rfl, rfl⟩ | ⟨g, cap, cur, rfl, hbg, hg, hnc, hcm, hcs, htake⟩
  · have hx : xs = [] := List.eq_nil_of_length_eq_zero (by simpa using hown.1)
    subst hx
    by_cases hm : m = 0
    · subst hm
      have hn : news = [] := List.eq_nil_of_length_eq_zero (by simpa using hs.newsLen)
      subst hn
      refine ⟨.slice none 0 0, w, ?_, World.ownsRow_nil w base e i.size, ⟨rfl, rfl, rfl, Nat.le_refl _, fun _ _ _ => rfl⟩, Or.inl rfl⟩
      rcases hs.kind with ⟨e', hk⟩ | hk <;> simp [Builtin.append_, run_underlying ht, run_underlying hk, sizeOf, typeInfo, hi, hs.len, hs.cells]
    · exact grows none 0 rfl (by omega) (run_firstCells_none w.drew i.size 0 0 0)
  · by_cases hroom : n + m ≤ cap
    · have hfit : n * i.size + news.length ≤ cur.size := by rw [hs.newsLen, hcs, ← Nat.add_mul]; exact Nat.mul_le_mul_right _ hroom
      have hcell : ∀ j, j < news.length → (w.cell? ⟨g, 0 + n * i.size + j, none⟩).isSome = true := fun j hj => by
        simp [World.cell?, hg]; omega
      have hr := run_append_room_src (P := P) w t tx ty e i ht hi g 0 n cap x m news hs hroom hcell (fun j _ => by simp [World.frozen?, hg])
      obtain ⟨cur', a1, a2, a3⟩ := setCells_block g e (0, 0) news (0 + n * i.size) w cur hg (by omega)
      have hb := Go.below_setCells (B := g) (Nat.le_refl g) news (0 + n * i.size) w (Below.refl _ _)
      refine ⟨_, _, hr, ⟨hlen, .inr ⟨g, cap, cur', rfl, hbg, a1, hroom, hcm, by omega, ?_⟩⟩, ⟨hb.os, hb.tape, hb.output, hb.size, fun k hk hne => ?_⟩, .inl rfl⟩
      · apply List.ext_getElem?
        intro j
        have hmul : (n + m) * i.size = n * i.size + m * i.size := Nat.add_mul _ _ _
        rw [List.getElem?_take, Array.getElem?_toList (xs := cur'), a3 j, List.getElem?_append, hown.1, ← htake, List.getElem?_take, Array.getElem?_toList (xs := cur)]
        by_cases h1 : j < n * i.size
        · rw [if_pos (by omega), if_neg (by omega), if_pos h1, if_pos h1]
        · rw [if_neg h1]
          by_cases h2 : j < (n + m) * i.size
          · rw [if_pos h2, if_pos ⟨by omega, by rw [hs.newsLen, Nat.zero_add, ← Nat.add_mul]; exact h2⟩, Nat.zero_add]
          · rw [if_neg h2, List.getElem?_eq_none (by rw [hs.newsLen]; rw [Nat.add_mul] at h2; omega)]
      · exact World.heap_setCells_other w g _ news hk (fun e => hne (by simp [Value.ownBlock, e]))
    · have holds : ∀ j u, xs[j]? = some u → w.drew.cell? ((⟨g, 0, none⟩ : Addr).add j) = some u := hown.cells (g := g) rfl
      exact grows _ cap rfl (by omega) (run_firstCells_some w.drew i.size n ⟨g, 0, none⟩ n cap xs hown.1 holds)

theorem wpList_append_src {P : Program} {w : World} {ops : Array Oper} {rest : List Oper} {o : Oper} {a : Act} {Q : Exit → Act → World → Prop} (hgd : o.guard = none) (s x : Operand) (t tx : TypeId)
    (ho : o.op = .call { callee := .builtin .append, args := #[s, x], argTypes := #[t, tx] })
    (base : Nat) (e : TypeId) (i : TypeInfo) (z : Value) (size bytes : Nat) (ht : P.underlying t = some (.slice e)) (hi : P.info? e = some i) (hz : i.zero = some z)
    (hsize : i.size = size) (hby : i.bytes = bytes) (hzs : z.cells.size = size)
    (v : Value) (n : Nat) (xs : List Value) (hv : a.eval s = v) (hown : w.ownsRow base e size v n xs)
    (y : Value) (m : Nat) (news : List Value) (hx : a.eval x = y) (hs : Src P size tx y m news w)
    (h63 : n + m ≤ maxLen) (hbytes : (n + m) * bytes ≤ 140737488355328) (hbase : base ≤ w.heap.size)
    (h : ∀ v' w', w'.ownsRow base e size v' (n + m) (xs ++ news) → Grew w w' v v' → wpList P ops Q rest (a.put o.dst v') w') : wpList P ops Q (o :: rest) a w := by
  obtain ⟨v', w', hrun, h2, h3, h4⟩ := run_append_src (P := P) w base t tx o.type e i z size bytes ht hi hz hsize hby hzs v n xs hown y m news hs h63 hbytes hbase
  refine wpList_plain hgd fun _ hK => ?_
  unfold Oper.wp execOp
  simp only [ho, resolve, invoke, builtin, Sem.run_bind, Sem.run_pure, Result.andThen_ok, List.map_toArray, List.map_cons, List.map_nil, hv, hx, hrun]
  exact hK _ _ (h v' w' h2 (Grew.of_append h3 h4))

theorem or128_fin : ∀ x : Fin 256, bits .or .u8 (x.val : Int) 128 = ((x.val % 128 + 128 : Nat) : Int) := by decide +kernel
theorem or128 (k : Nat) : bits .or .u8 ((k : Int) % 256) 128 = ((k % 128 + 128 : Nat) : Int) := by
  have h := or128_fin ⟨k % 256, by omega⟩
  simp only at h
  rw [show ((k : Int) % 256) = ((k % 256 : Nat) : Int) by omega, h]
  omega

theorem i64_notI (v : Int) (h1 : -9223372036854775808 ≤ v) (h2 : v ≤ 9223372036854775807) : bits .xor .i64 (-1) v = -v - 1 := by
  show IntKind.i64.wrap ((BitVec.ofInt 64 (-1) ^^^ BitVec.ofInt 64 v).toNat : Int) = _
  rw [show BitVec.ofInt 64 (-1) = BitVec.allOnes 64 from rfl, BitVec.allOnes_xor, BitVec.toNat_not, BitVec.toNat_ofInt, IntKind.wrap_i64]
  omega
theorem u64_notI (x : Int) (h1 : 0 ≤ x) (h2 : x < 18446744073709551616) : bits .xor .u64 IntKind.u64.max x = 18446744073709551615 - x := by
  show IntKind.u64.wrap ((BitVec.ofInt 64 18446744073709551615 ^^^ BitVec.ofInt 64 x).toNat : Int) = _
  rw [show BitVec.ofInt 64 18446744073709551615 = BitVec.allOnes 64 from rfl, BitVec.allOnes_xor, BitVec.toNat_not, BitVec.toNat_ofInt]
  simp only [IntKind.wrap, IntKind.bits, IntKind.signed]
  simp
  omega
theorem u64_or1 (x : Int) (h1 : 0 ≤ x) (h2 : x < 9223372036854775808) : bits .or .u64 (x * 2) 1 = x * 2 + 1 := by
  rw [u64_or _ _ (by omega) (by omega) (by omega) (by omega)]
  have := nat_join 1 (x * 2).toNat 1 (by omega) (by omega)
  rw [show (1 : Int).toNat = 1 from rfl, this]
  omega
theorem wrap_u64 (n : Int) : IntKind.u64.wrap n = n % 18446744073709551616 := by simp [IntKind.wrap, IntKind.bits, IntKind.signed]

theorem pow7_pos (k : Nat) : 0 < 2 ^ (7 * k) := Nat.pow_pos (by omega)
theorem pow7_le {k : Nat} (h : k ≤ 9) : 2 ^ (7 * k) ≤ 9223372036854775808 := Nat.pow_le_pow_right (n := 2) (by omega) (show 7 * k ≤ 63 by omega)
theorem pow7_le8 {k : Nat} (h : k ≤ 8) : 2 ^ (7 * k) ≤ 72057594037927936 := Nat.pow_le_pow_right (n := 2) (by omega) (show 7 * k ≤ 56 by omega)
theorem pow7_succ (k : Nat) : 2 ^ (7 * (k + 1)) = 128 * 2 ^ (7 * k) := by rw [Nat.mul_add, Nat.pow_add]; omega
theorem join7 (u x k : Nat) (hu : u < 2 ^ (7 * k)) (hx : x < 256) (hk : k ≤ 8 ∨ (k = 9 ∧ x ≤ 1)) :
    bits .or .u64 (u : Int) (IntKind.u64.wrap (IntKind.u64.wrap (bits .and .u8 (x : Int) 127) * 2 ^ (7 * k))) = ((u + x % 128 * 2 ^ (7 * k) : Nat) : Int) := by
  have h1 : bits .and .u8 (x : Int) 127 = ((x % 128 : Nat) : Int) := by
    have := u8_and_nat x 127 hx (by omega)
    rw [nat_mask7] at this
    exact this
  have hp9 : 2 ^ (7 * k) ≤ 9223372036854775808 := pow7_le (by omega)
  have hy : x % 128 * 2 ^ (7 * k) < 18446744073709551616 := by
    rcases hk with hk | ⟨rfl, hx1⟩
    · have := pow7_le8 hk
      calc x % 128 * 2 ^ (7 * k) ≤ 127 * 72057594037927936 := Nat.mul_le_mul (by omega) this
        _ < _ := by omega
    · have : x % 128 ≤ 1 := by omega
      calc x % 128 * 2 ^ (7 * 9) ≤ 1 * 2 ^ (7 * 9) := Nat.mul_le_mul this (Nat.le_refl _)
        _ < _ := by omega
  have hmod : x % 128 * 2 ^ (7 * k) % 2 ^ (7 * k) = 0 := Nat.mul_mod_left _ _
  rw [h1, wrap_u64 ((x % 128 : Nat) : Int), show ((x % 128 : Nat) : Int) % 18446744073709551616 = ((x % 128 : Nat) : Int) by omega]
  have e : (((x % 128 : Nat) : Int) * 2 ^ (7 * k)) = ((x % 128 * 2 ^ (7 * k) : Nat) : Int) := by
    rw [Int.natCast_mul, Int.natCast_pow]; rfl
  rw [e, wrap_u64]
  generalize x % 128 * 2 ^ (7 * k) = y at *
  rw [show ((y : Nat) : Int) % 18446744073709551616 = ((y : Nat) : Int) by omega, u64_or_nat u y (by omega) hy, Nat.or_comm, nat_join (7 * k) y u hmod hu]
  congr 1; omega
theorem join7_lt {u x k : Nat} (hu : u < 2 ^ (7 * k)) : u + x % 128 * 2 ^ (7 * k) < 2 ^ (7 * (k + 1)) := by
  rw [pow7_succ]
  have : x % 128 * 2 ^ (7 * k) ≤ 127 * 2 ^ (7 * k) := Nat.mul_le_mul (by omega) (Nat.le_refl _)
  omega

theorem and_i64_mask (v : Int) (m : Nat) (hm : m < 9223372036854775808) : ∃ k : Nat, k ≤ m ∧ bits .and .i64 v (m : Int) = (k : Int) := by
  refine ⟨(BitVec.ofInt 64 v &&& BitVec.ofInt 64 (m : Int)).toNat, ?_, ?_⟩
  · rw [BitVec.toNat_and]
    refine Nat.le_trans Nat.and_le_right ?_
    rw [BitVec.toNat_ofInt]; omega
  · show IntKind.i64.wrap ((BitVec.ofInt 64 v &&& BitVec.ofInt 64 (m : Int)).toNat : Int) = _
    have h : (BitVec.ofInt 64 v &&& BitVec.ofInt 64 (m : Int)).toNat ≤ m := by
      rw [BitVec.toNat_and]
      refine Nat.le_trans Nat.and_le_right ?_
      rw [BitVec.toNat_ofInt]; omega
    rw [IntKind.wrap_i64]; omega

theorem bv_one (l : List UInt8) : ∀ u ∈ l.map bv, u.oneCell' = true := by
  intro u hu
  obtain ⟨b, _, rfl⟩ := List.mem_map.1 hu
  rfl
end Go.Proofs.Ytopanbcodfkedaa
