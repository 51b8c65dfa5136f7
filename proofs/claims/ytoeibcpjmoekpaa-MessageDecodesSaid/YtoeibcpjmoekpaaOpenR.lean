/- How an argument of type api.Reply is opened. -/
import Derived.Test.YtoeibcpjmoekpaaOpenM
import Derived.Test.YtoeibcpjmoekpaaRepA
import Derived.Deep.Slices
namespace Go.Proofs.Ytoeibcpjmoekpaa
open Go.ChangeShapes Go.WideShapes Go.ChangeAt Go.RowKit Go.Joins Go.Deep
set_option linter.unusedVariables false

theorem Rd.app {w : World} {a : Addr} {xs ys : List Value} (h : Rd w (some a) xs) (k : ∀ i u, ys[i]? = some u → w.cell? (a.add (xs.length + i)) = some u) : Rd w (some a) (xs ++ ys) := fun j u hu => by
  by_cases hj : j < xs.length
  · rw [List.getElem?_append_left hj] at hu
    exact h j u hu
  · rw [List.getElem?_append_right (by omega)] at hu
    refine ⟨a, rfl, ?_⟩
    have := k _ u hu
    rwa [show xs.length + (j - xs.length) = j by omega] at this
section
variable {H : Type} {enc : TypeId × Value → H} {P : Program} {w : World} {base : Nat} {held : Bool}
/-- a slice of elements of several cells -/
theorem trod_row {α : Type} {f : α → List Value} {Q : α → Prop} {t e : TypeId} {k fuel : Nat} {v : Value} {x : DataW H × List MemPlace} (ht : P.underlying t = some (.slice e)) (hc : P.cellsOf e = k) (hk : 0 < k)
    (hel : ∀ (m : Nat) (cs : List Value) (y : DataW H × List MemPlace), DataW.trod enc P w base (fun _ => true) held m e cs = some y → ∃ a, cs = f a ∧ (f a).length = k ∧ Q a)
    (h : DataW.trod enc P w base (fun _ => true) held fuel t [v] = some x) : ∃ l : List α, InR f w v l ∧ l.length ≤ maxLen ∧ ∀ a ∈ l, (f a).length = k ∧ Q a := by
  rcases open_slice ht h with ⟨hcs, _⟩ | ⟨a, len, cap, m, n, D, Pl, hcs, _, hl, hm, hmm, _, hall⟩
  · simp at hcs; subst hcs
    exact ⟨[], InR.nil w, Nat.zero_le _, by simp⟩
  · simp at hcs; subst hcs
    simp only [if_true] at hmm
    have key : ∀ j, j ≤ len → ∃ l : List α, l.length = j ∧ Rd w (some a) (l.flatMap f) ∧ ∀ a ∈ l, (f a).length = k ∧ Q a := by
      intro j
      induction j with
      | zero => intro _; exact ⟨[], rfl, Rd.nil, by simp⟩
      | succ j ih =>
        intro hj
        obtain ⟨l, h1, h2, h3⟩ := ih (by omega)
        obtain ⟨cs', hc1, hc2⟩ := hall j (by omega)
        obtain ⟨b, rfl, hb1, hb2⟩ := hel _ _ _ hc2
        obtain ⟨_, _, hcell⟩ := World.cells?_some hc1
        have hfl := flat_len l (fun x hx => (h3 x hx).1)
        refine ⟨l ++ [b], by simp [h1], ?_, ?_⟩
        · rw [List.flatMap_append, List.flatMap_cons, List.flatMap_nil, List.append_nil]
          refine h2.app fun i u hu => ?_
          have hi : i < (f b).length := (List.getElem?_eq_some_iff.1 hu).1
          rw [hfl, h1, ← add_add, ← hu]
          have := hcell i (by omega)
          rw [hc] at this
          exact this
        · intro y hy
          rcases List.mem_append.1 hy with hy | hy
          · exact h3 y hy
          · simp only [List.mem_singleton] at hy
            subst hy
            exact ⟨hb1, hb2⟩
    obtain ⟨l, h1, h2, h3⟩ := key len (Nat.le_refl _)
    exact ⟨l, ⟨some a, cap, by rw [h1], by omega, h2⟩, by omega, h3⟩
theorem fld {t : TypeId} {fs : Array Field} {n : Nat} {cs : List Value} {xs : List (DataW H × List MemPlace)} (hl : xs.length = fs.size)
    (hf : ∀ (i : Nat) (f : Field), fs[i]? = some f → DataW.trod enc P w base (fun _ => true) held n f.type ((cs.drop f.offset).take (P.cellsOf f.type)) = xs[i]?)
    (i : Nat) (f : Field) (h : fs[i]? = some f) (o k : Nat) (ho : f.offset = o) (ht : f.type = t) (hk : P.cellsOf t = k) : ∃ y, DataW.trod enc P w base (fun _ => true) held n t ((cs.drop o).take k) = some y := by
  have h1 := hf i f h
  rw [ho, ht, hk] at h1
  have hi : i < fs.size := (Array.getElem?_eq_some_iff.1 h).1
  exact ⟨_, h1.trans (List.getElem?_eq_getElem (by omega))⟩
end
theorem ints_of : ∀ (l : List Value), (∀ c ∈ l, ∃ n, c = iv n ∧ I64 n) → ∃ ns : List Int, l = ns.map iv ∧ ∀ n ∈ ns, I64 n
  | [], _ => ⟨[], rfl, by simp⟩
  | c :: l, h => by
    obtain ⟨n, rfl, hn⟩ := h c (by simp)
    obtain ⟨ns, rfl, h2⟩ := ints_of l (fun x hx => h x (by simp [hx]))
    exact ⟨n :: ns, rfl, fun x hx => by
      rcases List.mem_cons.1 hx with rfl | hx
      · exact hn
      · exact h2 x hx⟩
theorem one_of {cs : List Value} {o : Nat} (h : o < cs.length) : (cs.drop o).take 1 = [cs[o]] := by rw [List.drop_eq_getElem_cons h]; rfl
theorem cut4 {cs : List Value} (h : cs.length = 20) : cs = (cs.drop 0).take 1 ++ ((cs.drop 1).take 17 ++ ((cs.drop 18).take 1 ++ (cs.drop 19).take 1)) := by
  apply List.ext_getElem?
  intro i
  by_cases h0 : i < 1
  · rw [List.getElem?_append_left (by simp; omega)]; simp [h0]
  · rw [List.getElem?_append_right (by simp; omega)]
    by_cases h1 : i < 18
    · rw [List.getElem?_append_left (by simp; omega)]
      simp only [List.getElem?_take, List.getElem?_drop, List.length_take, List.length_drop, h]
      rw [if_pos (by omega)]
      congr 1; omega
    · rw [List.getElem?_append_right (by simp; omega)]
      by_cases h2 : i < 19
      · rw [List.getElem?_append_left (by simp; omega)]
        simp only [List.getElem?_take, List.getElem?_drop, List.length_take, List.length_drop, h]
        rw [if_pos (by omega)]
        congr 1; omega
      · rw [List.getElem?_append_right (by simp; omega)]
        simp only [List.getElem?_take, List.getElem?_drop, List.length_take, List.length_drop, h]
        by_cases h3 : i < 20
        · rw [if_pos (by omega)]
          congr 1; omega
        · rw [if_neg (by omega), List.getElem?_eq_none (by omega)]
section
variable {H : Type} {enc : TypeId × Value → H} {w : World} {base : Nat} {held : Bool}
theorem c_int : Try.prog.cellsOf 3 = 1 := by kernel_rfl
theorem c_ints : Try.prog.cellsOf 26 = 1 := by kernel_rfl
theorem c_cpu : Try.prog.cellsOf 89 = 17 := by kernel_rfl
theorem c_thr : Try.prog.cellsOf 91 = 20 := by kernel_rfl
theorem c_rep : Try.prog.cellsOf 58 = 11 := by kernel_rfl
theorem c_stop : Try.prog.cellsOf 56 = 7 := by kernel_rfl
theorem c_pr : Try.prog.cellsOf 62 = 2 := by kernel_rfl
theorem c_err : Try.prog.cellsOf 31 = 1 := by kernel_rfl
theorem c_regs : Try.prog.cellsOf 87 = 16 := by kernel_rfl
theorem c_thrs : Try.prog.cellsOf 53 = 1 := by kernel_rfl
theorem c_prs : Try.prog.cellsOf 54 = 1 := by kernel_rfl
theorem trod_thread {m : Nat} {cs : List Value} {y : DataW H × List MemPlace} (h : DataW.trod enc Try.prog w base (fun _ => true) held m 91 cs = some y) : ∃ z : Thr × Value, cs = thrCells z ∧ (thrCells z).length = 20 ∧ (ThrIn w z ∧ z.1.Ok ∧ z.1.args.length ≤ maxLen) := by
  obtain ⟨xs, n, _, _, hcl, hxl, hf⟩ := DataW.trod_struct Try.underlying91 h
  rw [c_thr] at hcl
  obtain ⟨_, t0⟩ := fld hxl hf 0 _ rfl 0 1 rfl rfl c_int
  obtain ⟨_, t1⟩ := fld hxl hf 1 _ rfl 1 17 rfl rfl c_cpu
  obtain ⟨_, t2⟩ := fld hxl hf 2 _ rfl 18 1 rfl rfl c_int
  obtain ⟨_, t3⟩ := fld hxl hf 3 _ rfl 19 1 rfl rfl c_ints
  obtain ⟨st, e0, _, w0⟩ := DataW.trod_int Try.underlying3 t0
  obtain ⟨fn, e2, _, w2⟩ := DataW.trod_int Try.underlying3 t2
  rw [one_of (by omega)] at t3
  obtain ⟨args, i3, m3, z3⟩ := trod_int64s Try.underlying26 Try.underlying3 (by kernel_rfl) t3
  obtain ⟨ys, n', _, _, hcl', hyl, hf'⟩ := DataW.trod_struct Try.underlying89 t1
  rw [c_cpu] at hcl'
  obtain ⟨_, u0⟩ := fld hyl hf' 0 _ rfl 0 16 rfl rfl c_regs
  obtain ⟨_, u1⟩ := fld hyl hf' 1 _ rfl 16 1 rfl rfl c_int
  obtain ⟨pc, e1, _, w1⟩ := DataW.trod_int Try.underlying3 u1
  obtain ⟨rs, n2, _, _, hrl, hrl2, hf2⟩ := DataW.trod_array Try.underlying87 u0
  have hR : ∀ c ∈ (((cs.drop 1).take 17).drop 0).take 16, ∃ n, c = iv n ∧ I64 n := by
    intro c hc
    obtain ⟨i, hi, rfl⟩ := List.getElem_of_mem hc
    have hi16 : i < 16 := by rw [hrl, c_regs] at hi; exact hi
    have h2 := hf2 i hi16
    rw [c_int, Nat.mul_one, one_of hi, List.getElem?_eq_getElem (by omega)] at h2
    obtain ⟨q, eq, _, wq⟩ := DataW.trod_int Try.underlying3 h2
    injection eq with eq
    exact ⟨q, eq, wf_i64 wq⟩
  obtain ⟨regs, hregs, hri⟩ := ints_of _ hR
  have hrl3 : regs.length = 16 := by
    have := congrArg List.length hregs
    rw [hrl, c_regs] at this
    simpa using this.symm
  have hcpu : (cs.drop 1).take 17 = regs.map iv ++ [.int .i64 pc] := by
    rw [← hregs, ← e1, List.drop_zero, List.take_of_length_le (l := List.drop 16 _) (by simp; omega), List.take_append_drop]
  refine ⟨(⟨st, regs, pc, fn, args⟩, cs[19]), ?_, thr_len hrl3, ⟨hrl3, i3⟩, ⟨?_, z3⟩, m3⟩
  · have hc := cut4 hcl
    rw [e0, hcpu, e2, one_of (by omega)] at hc
    refine hc.trans ?_
    simp [thrCells]
  · intro x hx
    simp only [Thr.nums, List.cons_append, List.nil_append, List.mem_cons] at hx
    rcases hx with rfl | rfl | rfl | hx
    · exact wf_i64 w0
    · exact wf_i64 w2
    · exact wf_i64 w1
    · exact hri x hx
theorem trod_printed {m : Nat} {cs : List Value} {y : DataW H × List MemPlace} (h : DataW.trod enc Try.prog w base (fun _ => true) held m 62 cs = some y) : ∃ z : Int × Int, cs = outCells z ∧ (outCells z).length = 2 ∧ (I64 z.1 ∧ I64 z.2) := by
  obtain ⟨hl, n, hf⟩ := trod_fields Try.underlying62 (by kernel_rfl) (by kernel_rfl) h
  match cs, hl with
  | [c0, c1], _ =>
    obtain ⟨u0, y0, e0, t0⟩ := hf 0 _ rfl
    obtain ⟨u1, y1, e1, t1⟩ := hf 1 _ rfl
    simp only [List.getElem?_cons_zero, List.getElem?_cons_succ, Option.some.injEq] at e0 e1
    subst e0 e1
    obtain ⟨k0, e0, _, w0⟩ := DataW.trod_int Try.underlying3 t0
    obtain ⟨k1, e1, _, w1⟩ := DataW.trod_int Try.underlying3 t1
    injection e0 with e0
    injection e1 with e1
    subst e0 e1
    exact ⟨(k0, k1), rfl, rfl, wf_i64 w0, wf_i64 w1⟩
theorem cut5 {cs : List Value} (h : cs.length = 11) : ∃ c0 c1 c2 c3 c4 c5 c6 c7 c8 c9 c10, cs = [c0, c1, c2, c3, c4, c5, c6, c7, c8, c9, c10] := by
  match cs, h with
  | [c0, c1, c2, c3, c4, c5, c6, c7, c8, c9, c10], _ => exact ⟨c0, c1, c2, c3, c4, c5, c6, c7, c8, c9, c10, rfl⟩
set_option maxRecDepth 100000 in
theorem open_reply {r : Reach} {b0 : Nat} {v : Value} {d : DataW H} {p : List MemPlace} (hv : Value.okWide Try.prog w r b0 58 v) (h : DataW.Trod enc Try.prog w base (fun _ => true) held 58 v d p) :
    ∃ q : Rep, RepAt w v q ∧ q.threads.length ≤ 9223372036854775807 ∧ q.Ok := by
  obtain ⟨cs, rfl, hsz⟩ := okWide_struct Try.underlying58 hv
  obtain ⟨fuel, hf⟩ := h
  obtain ⟨cl⟩ := cs
  have hf' : DataW.trod enc Try.prog w base (fun _ => true) held fuel 58 cl = some (d, p) := hf
  obtain ⟨xs, n, _, _, hcl, hxl, hfs⟩ := DataW.trod_struct Try.underlying58 hf'
  rw [c_rep] at hcl
  obtain ⟨c0, c1, c2, c3, c4, c5, c6, c7, c8, c9, c10, rfl⟩ := cut5 hcl
  obtain ⟨_, t0⟩ := fld hxl hfs 0 _ rfl 0 1 rfl rfl c_err
  obtain ⟨_, t1⟩ := fld hxl hfs 1 _ rfl 1 1 rfl rfl c_ints
  obtain ⟨_, t2⟩ := fld hxl hfs 2 _ rfl 2 1 rfl rfl c_thrs
  obtain ⟨_, t3⟩ := fld hxl hfs 3 _ rfl 3 1 rfl rfl c_prs
  obtain ⟨_, t4⟩ := fld hxl hfs 4 _ rfl 4 7 rfl rfl c_stop
  simp only [List.drop_succ_cons, List.drop_zero, List.take_succ_cons, List.take_zero] at t0 t1 t2 t3 t4
  obtain ⟨er, e0, _, w0⟩ := DataW.trod_int Try.underlying31 t0
  obtain ⟨ws, i1, m1, z1⟩ := trod_int64s Try.underlying26 Try.underlying3 (by kernel_rfl) t1
  obtain ⟨zs, i2, m2, z2⟩ := trod_row (f := thrCells) (Q := fun z => ThrIn w z ∧ z.1.Ok ∧ z.1.args.length ≤ maxLen) Try.underlying53 c_thr (by omega) (fun m cs y h => trod_thread h) t2
  obtain ⟨os, i3, m3, z3⟩ := trod_row (f := outCells) (Q := fun z => I64 z.1 ∧ I64 z.2) Try.underlying54 c_pr (by omega) (fun m cs y h => trod_printed h) t3
  obtain ⟨hl4, n4, hf4⟩ := trod_fields Try.underlying56 (by kernel_rfl) (by kernel_rfl) t4
  obtain ⟨u0, y0, q0, s0⟩ := hf4 0 _ rfl
  obtain ⟨u1, y1, q1, s1⟩ := hf4 1 _ rfl
  obtain ⟨u2, y2, q2, s2⟩ := hf4 2 _ rfl
  obtain ⟨u3, y3, q3, s3⟩ := hf4 3 _ rfl
  obtain ⟨u4, y4, q4, s4⟩ := hf4 4 _ rfl
  obtain ⟨u5, y5, q5, s5⟩ := hf4 5 _ rfl
  obtain ⟨u6, y6, q6, s6⟩ := hf4 6 _ rfl
  simp only [List.getElem?_cons_zero, List.getElem?_cons_succ, Option.some.injEq] at q0 q1 q2 q3 q4 q5 q6
  subst q0 q1 q2 q3 q4 q5 q6
  obtain ⟨k0, q0, _, v0⟩ := DataW.trod_int Try.underlying3 s0
  obtain ⟨k1, q1, _, v1⟩ := DataW.trod_int Try.underlying3 s1
  obtain ⟨k2, q2, _, v2⟩ := DataW.trod_int Try.underlying3 s2
  obtain ⟨k3, q3, _, v3⟩ := DataW.trod_int Try.underlying3 s3
  obtain ⟨k4, q4, _, v4⟩ := DataW.trod_int Try.underlying3 s4
  obtain ⟨k5, q5, _, v5⟩ := DataW.trod_int Try.underlying3 s5
  obtain ⟨k6, q6, _, v6⟩ := DataW.trod_int Try.underlying3 s6
  injection e0 with e0
  injection q0 with q0
  injection q1 with q1
  injection q2 with q2
  injection q3 with q3
  injection q4 with q4
  injection q5 with q5
  injection q6 with q6
  subst e0 q0 q1 q2 q3 q4 q5 q6
  refine ⟨⟨er, ws, zs.map Prod.fst, os, k0, k1, k2, k3, k4, k5, k6⟩, ⟨_, _, _, rfl, ⟨i1, ⟨zs, rfl, i2, fun z hz => (z2 z hz).2.1⟩, i3⟩⟩, by simpa [maxLen] using m2, ⟨wf_i64 w0, z1, ?_, ?_, ?_⟩⟩
  · intro t ht
    obtain ⟨z, hz, rfl⟩ := List.mem_map.1 ht
    exact (z2 z hz).2.2.1
  · intro x hx
    simp only [outL, List.mem_flatMap] at hx
    obtain ⟨q, hq, hx⟩ := hx
    have := (z3 q hq).2
    simp only [List.mem_cons, List.not_mem_nil, or_false] at hx
    rcases hx with rfl | rfl
    · exact this.1
    · exact this.2
  · intro x hx
    simp only [Rep.stop, List.mem_cons, List.not_mem_nil, or_false] at hx
    rcases hx with rfl | rfl | rfl | rfl | rfl | rfl | rfl
    · exact wf_i64 v0
    · exact wf_i64 v1
    · exact wf_i64 v2
    · exact wf_i64 v3
    · exact wf_i64 v4
    · exact wf_i64 v5
    · exact wf_i64 v6
end
end Go.Proofs.Ytoeibcpjmoekpaa
