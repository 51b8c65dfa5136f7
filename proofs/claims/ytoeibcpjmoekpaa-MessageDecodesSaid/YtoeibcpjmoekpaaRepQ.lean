/- Replies: plain laws of decoding, step by step. No program here. -/
import Derived.Test.YtoeibcpjmoekpaaRepP
namespace Go.Proofs.Ytoeibcpjmoekpaa
open Go.RowKit
set_option linter.unusedVariables false

/-- while threads are read: k to go -/
def Dec1 (b : List UInt8) (err : Int) (words : List Int) (ts : List Thr) (k : Nat) (st : Option Int) : Prop :=
  ∀ r : Rep, r.Enc b → r.err = err ∧ r.words = words ∧ ∃ j, ts = r.threads.take j ∧ j + k = r.threads.length ∧ st = at_ (pR3 r j)
theorem pR3_zero (r : Rep) : pR3 r 0 = pR2 r := by simp [pR3, thrsB]
theorem Dec1.start {b : List UInt8} {words : List Int} {st2 : Option Int} (h1 : ListIs ((numR b (some 0)).2.bind (listR b 128)) words st2) : Dec1 b (numR b (some 0)).1 words [] (cntR b 8 st2).1.toNat (cntR b 8 st2).2 := by
  intro r hr
  rw [rd0 hr] at h1 ⊢
  obtain ⟨rfl, rfl⟩ := listIs_eq h1 (rd1 hr)
  have e := rd2 hr
  unfold at_ at e
  rw [e]
  exact ⟨rfl, rfl, 0, by simp, by simp, by rw [pR3_zero]; rfl⟩
theorem Dec1.start' {b : List UInt8} {words : List Int} {st2 : Option Int} (h1 : ListIs ((numR b (some 0)).2.bind (listR b 128)) words st2) : Dec1 b (numR b (some 0)).1 words [] (uR b st2).1.toNat (uR b st2).2 := by
  intro r hr
  rw [rd0 hr] at h1 ⊢
  obtain ⟨rfl, rfl⟩ := listIs_eq h1 (rd1 hr)
  have e := rd2' hr
  unfold at_ at e
  rw [e]
  exact ⟨rfl, rfl, 0, by simp, by simp, by rw [pR3_zero]; rfl⟩
theorem Dec1.step {b : List UInt8} {err : Int} {words : List Int} {ts : List Thr} {k : Nat} {st st' st'' : Option Int} {l args : List Int} (h : Dec1 b err words ts (k + 1) st)
    (h1 : ListIs (st.bind (exR b 19)) l st') (h2 : ListIs (st'.bind (listR b 4)) args st'') : Dec1 b err words (ts ++ [thrOf l args]) k st'' := by
  intro r hr
  obtain ⟨e1, e2, j, e3, e4, rfl⟩ := h r hr
  have hj : j < r.threads.length := by omega
  obtain ⟨rfl, rfl⟩ := listIs_eq h1 (rd3 hr hj)
  obtain ⟨rfl, rfl⟩ := listIs_eq h2 (rd4 hr hj)
  refine ⟨e1, e2, j + 1, ?_, by omega, rfl⟩
  rw [thrOf_nums, e3, List.take_succ_eq_append_getElem hj]
theorem Dec1.none {b : List UInt8} {err : Int} {words : List Int} {ts : List Thr} {k : Nat} (h : Dec1 b err words ts k none) : ¬ ∃ r : Rep, r.Enc b := fun ⟨r, hr⟩ => by
  obtain ⟨_, _, j, _, _, e⟩ := h r hr
  cases e
/-- too many threads -/
theorem Dec1.many {b : List UInt8} {err : Int} {words : List Int} {ts : List Thr} {k : Nat} {st : Option Int} (h : Dec1 b err words ts k st) (hk : 8 < k) : ¬ ∃ r : Rep, r.Enc b := fun ⟨r, hr⟩ => by
  obtain ⟨_, _, j, _, e, _⟩ := h r hr
  have := hr.fits.threads
  omega
def Dec2 (b : List UInt8) (err : Int) (words : List Int) (ts : List Thr) (st : Option Int) : Prop :=
  ∀ r : Rep, r.Enc b → r.err = err ∧ r.words = words ∧ r.threads = ts ∧ st = at_ (pR3 r r.threads.length)
theorem Dec1.done {b : List UInt8} {err : Int} {words : List Int} {ts : List Thr} {st : Option Int} (h : Dec1 b err words ts 0 st) : Dec2 b err words ts st := by
  intro r hr
  obtain ⟨e1, e2, j, e3, e4, rfl⟩ := h r hr
  obtain rfl : j = r.threads.length := by omega
  exact ⟨e1, e2, by rw [e3, List.take_length], rfl⟩
theorem Dec2.of_none {b : List UInt8} {err : Int} {words : List Int} {ts : List Thr} {st : Option Int} (h : ¬ ∃ r : Rep, r.Enc b) : Dec2 b err words ts st := fun r hr => absurd ⟨r, hr⟩ h
def Dec3 (b : List UInt8) (err : Int) (words : List Int) (ts : List Thr) (out : List Int) (st : Option Int) : Prop :=
  ∀ r : Rep, r.Enc b → r.err = err ∧ r.words = words ∧ r.threads = ts ∧ outL r.output = out ∧ st = at_ (pR4 r)
theorem Dec2.out {b : List UInt8} {err : Int} {words : List Int} {ts : List Thr} {out : List Int} {st st' : Option Int} (h : Dec2 b err words ts st) (h1 : ListIs (st.bind (listR b 256)) out st') : Dec3 b err words ts out st' := by
  intro r hr
  obtain ⟨e1, e2, e3, rfl⟩ := h r hr
  obtain ⟨rfl, rfl⟩ := listIs_eq h1 (rd5 hr)
  exact ⟨e1, e2, e3, rfl, rfl⟩
theorem Dec3.odd {b : List UInt8} {err : Int} {words : List Int} {ts : List Thr} {out : List Int} {st : Option Int} (h : Dec3 b err words ts out st) (ho : out.length % 2 ≠ 0) : ¬ ∃ r : Rep, r.Enc b := fun ⟨r, hr⟩ => by
  obtain ⟨_, _, _, rfl, _⟩ := h r hr
  rw [outL_len] at ho
  omega
theorem Dec3.of_none {b : List UInt8} {err : Int} {words : List Int} {ts : List Thr} {out : List Int} {st : Option Int} (h : ¬ ∃ r : Rep, r.Enc b) : Dec3 b err words ts out st := fun r hr => absurd ⟨r, hr⟩ h
def Dec4 (b : List UInt8) (q : Rep) (st : Option Int) : Prop := ∀ r : Rep, r.Enc b → r = q ∧ st = some (b.length : Int)
theorem Dec3.stop {b : List UInt8} {err : Int} {words : List Int} {ts : List Thr} {out : List Int} {st st' : Option Int} {s0 s1 s2 s3 s4 s5 s6 : Int} (h : Dec3 b err words ts out st) (h1 : ListIs (st.bind (exR b 7)) [s0, s1, s2, s3, s4, s5, s6] st') :
    Dec4 b ⟨err, words, ts, outP out, s0, s1, s2, s3, s4, s5, s6⟩ st' := by
  intro r hr
  obtain ⟨e1, e2, e3, e4, rfl⟩ := h r hr
  obtain ⟨e5, rfl⟩ := listIs_eq h1 (rd6 hr)
  refine ⟨?_, rfl⟩
  simp only [Rep.stop, List.cons.injEq, and_true] at e5
  obtain ⟨a0, a1, a2, a3, a4, a5, a6⟩ := e5
  exact rep_eq e1 e2 e3 (by rw [← e4, outP_outL]) a0.symm a1.symm a2.symm a3.symm a4.symm a5.symm a6.symm
theorem Dec4.none {b : List UInt8} {q : Rep} (h : Dec4 b q none) : ¬ ∃ r : Rep, r.Enc b := fun ⟨r, hr⟩ => by cases (h r hr).2
theorem Dec4.ne {b : List UInt8} {q : Rep} {st : Option Int} (h : Dec4 b q st) (hn : encR q ≠ b) : ¬ ∃ r : Rep, r.Enc b := fun ⟨r, hr⟩ => by
  obtain ⟨rfl, _⟩ := h r hr
  exact hn hr.eq
theorem Dec4.end_ {b : List UInt8} {q : Rep} {p : Int} (h : Dec4 b q (some p)) (hp : p ≠ b.length) : ¬ ∃ r : Rep, r.Enc b := fun ⟨r, hr⟩ => by
  have := (h r hr).2
  simp only [Option.some.injEq] at this
  exact hp this
/-- pairs out of a list -/
theorem outP_even : ∀ (l : List Int) (a b : Int), l.length % 2 = 0 → outP (l ++ [a, b]) = outP l ++ [(a, b)]
  | [], a, b, _ => rfl
  | [x], a, b, h => by simp at h
  | x :: y :: l, a, b, h => by
    have ih := outP_even l a b (by simp only [List.length_cons] at h; omega)
    rw [List.cons_append, List.cons_append, outP, ih, outP]
    rfl
theorem outP_one : ∀ (l : List Int) (a : Int), l.length % 2 = 0 → outP (l ++ [a]) = outP l
  | [], a, _ => rfl
  | [x], a, h => by simp at h
  | x :: y :: l, a, h => by
    have ih := outP_one l a (by simp only [List.length_cons] at h; omega)
    rw [List.cons_append, List.cons_append, outP, ih, outP]
theorem outP_take {l : List Int} {i : Nat} (he : i % 2 = 0) (h : i + 1 < l.length) : outP (l.take (i + 2)) = outP (l.take i) ++ [(l[i], l[i + 1])] := by
  have e : l.take (i + 2) = l.take i ++ [l[i], l[i + 1]] := by
    rw [show i + 2 = (i + 1) + 1 by omega, List.take_succ_eq_append_getElem h, List.take_succ_eq_append_getElem (by omega : i < l.length), List.append_assoc]
    rfl
  rw [e, outP_even _ _ _ (by rw [List.length_take]; omega)]
theorem outP_end {l : List Int} {i : Nat} (he : i % 2 = 0) (h : ¬ i + 1 < l.length) : outP (l.take i) = outP l := by
  by_cases h2 : i < l.length
  · have e : l = l.take i ++ [l[i]] := by
      have := List.take_succ_eq_append_getElem h2
      rw [← this, List.take_of_length_le (by omega)]
    have e2 := outP_one (l.take i) l[i] (by rw [List.length_take]; omega)
    rw [← e] at e2
    exact e2.symm
  · rw [List.take_of_length_le (by omega)]
theorem outP_mem : ∀ (l : List Int), ∀ x ∈ outL (outP l), x ∈ l
  | [], x, h => by simp [outP, outL] at h
  | [a], x, h => by simp [outP, outL] at h
  | a :: b :: l, x, h => by
    rw [outP, outL_cons] at h
    rcases List.mem_cons.1 h with rfl | h
    · simp
    · rcases List.mem_cons.1 h with rfl | h
      · simp
      · have := outP_mem l x h
        simp [this]
theorem outP_len : ∀ (l : List Int), 2 * (outP l).length ≤ l.length
  | [] => by simp [outP]
  | [a] => by simp [outP]
  | a :: b :: l => by
    have := outP_len l
    rw [outP]
    simp only [List.length_cons]
    omega
theorem thrOf_ok {l args : List Int} (hl : l.length = 19) (h1 : ∀ x ∈ l, I64 x) (h2 : ∀ x ∈ args, I64 x) : (thrOf l args).Ok ∧ (thrOf l args).regs.length = 16 :=
  ⟨⟨by rw [thrOf_back hl]; exact h1, h2⟩, by simp [thrOf, hl]⟩
theorem list3 {l : List Int} (h : l.length = 19) : ∃ a0 a1 a2 regs, l = a0 :: a1 :: a2 :: regs ∧ regs.length = 16 := by
  match l, h with
  | a0 :: a1 :: a2 :: regs, h => exact ⟨a0, a1, a2, regs, rfl, by simpa using h⟩
theorem list7 {l : List Int} (h : (l.length : Int) = 7) : ∃ a0 a1 a2 a3 a4 a5 a6, l = [a0, a1, a2, a3, a4, a5, a6] := by
  match l, h with
  | [a0, a1, a2, a3, a4, a5, a6], _ => exact ⟨a0, a1, a2, a3, a4, a5, a6, rfl⟩
end Go.Proofs.Ytoeibcpjmoekpaa
