/- Replies: plain laws of what is read of an encoded reply. No program here. -/
import Derived.Test.YtoeibcpjmoekpaaRepH
namespace Go.Proofs.Ytoeibcpjmoekpaa
open Go.RowKit
set_option linter.unusedVariables false

def rep0 : Rep := ⟨0, [], [], [], 0, 0, 0, 0, 0, 0, 0⟩
structure Rep.Enc (r : Rep) (b : List UInt8) : Prop where
  ok : r.Ok
  fits : r.Fits
  regs : ∀ t ∈ r.threads, t.regs.length = 16
  eq : encR r = b
def DecRIs (b : List UInt8) (r : Rep) (er : Int) : Prop := (er = 0 ∧ r.Enc b) ∨ (er = 4 ∧ r = rep0 ∧ ¬ ∃ r' : Rep, r'.Enc b)
/-- how far one has read -/
def pR0 (r : Rep) : List UInt8 := leb (zig r.err)
def pR1 (r : Rep) : List UInt8 := pR0 r ++ listB r.words
def pR2 (r : Rep) : List UInt8 := pR1 r ++ uintB r.threads.length
def pR3 (r : Rep) (j : Nat) : List UInt8 := pR2 r ++ thrsB (r.threads.take j)
def pR4 (r : Rep) : List UInt8 := pR3 r r.threads.length ++ listB (outL r.output)
def at_ (l : List UInt8) : Option Int := some (l.length : Int)
theorem encR_eq (r : Rep) : encR r = pR4 r ++ listB r.stop := by
  simp [encR, pR4, pR3, pR2, pR1, pR0, List.append_assoc]
section
variable {r : Rep} {b : List UInt8}
theorem rd0 (h : r.Enc b) : numR b (some 0) = (r.err, at_ (pR0 r)) := by
  have e := intR_leb h.ok.err.1 h.ok.err.2 [] (listB r.words ++ (uintB r.threads.length ++ (thrsB r.threads ++ (listB (outL r.output) ++ listB r.stop))))
  rw [List.nil_append] at e
  have hb : leb (zig r.err) ++ (listB r.words ++ (uintB r.threads.length ++ (thrsB r.threads ++ (listB (outL r.output) ++ listB r.stop)))) = b := h.eq
  rw [hb] at e
  simp only [List.length_nil, Int.natCast_zero, Int.zero_add] at e
  simp [numR, at_, pR0, e]
theorem rd1 (h : r.Enc b) : listR b 128 ((pR0 r).length : Int) = some (r.words, ((pR1 r).length : Int)) := by
  have e := listR_listB r.words (pR0 r) (uintB r.threads.length ++ (thrsB r.threads ++ (listB (outL r.output) ++ listB r.stop))) h.ok.words 128 (by have := h.fits.words; omega) (by have := h.fits.words; omega)
  have hb : pR0 r ++ (listB r.words ++ (uintB r.threads.length ++ (thrsB r.threads ++ (listB (outL r.output) ++ listB r.stop)))) = b := h.eq
  rw [hb] at e
  rw [e]; simp [pR1]
theorem rdU (h : r.Enc b) : uintR b ((pR1 r).length : Int) = ((r.threads.length : Int), ((pR2 r).length : Int), 0) := by
  have e := uintR_leb (v := r.threads.length) (by have := h.fits.threads; omega) (pR1 r) (thrsB r.threads ++ (listB (outL r.output) ++ listB r.stop))
  have hb : pR1 r ++ (leb r.threads.length ++ (thrsB r.threads ++ (listB (outL r.output) ++ listB r.stop))) = b := by
    rw [← uintB_nat, ← h.eq]; simp [encR, pR1, pR0, List.append_assoc]
  rw [hb] at e
  rw [e]; simp [pR2, uintB_nat]
theorem rd2 (h : r.Enc b) : cntR b 8 (at_ (pR1 r)) = ((r.threads.length : Int), at_ (pR2 r)) := by
  have := h.fits.threads
  simp only [cntR, at_, rdU h, true_and]
  rw [if_pos (by omega)]
theorem rd2' (h : r.Enc b) : uR b (at_ (pR1 r)) = ((r.threads.length : Int), at_ (pR2 r)) := by
  simp only [uR, at_, rdU h, if_true]
theorem rest3 (h : r.Enc b) {j : Nat} (hj : j < r.threads.length) : pR3 r j ++ (listB r.threads[j].nums ++ (listB r.threads[j].args ++ (thrsB (r.threads.drop (j + 1)) ++ (listB (outL r.output) ++ listB r.stop)))) = b := by
  have e : thrsB r.threads = thrsB (r.threads.take j) ++ (listB r.threads[j].nums ++ (listB r.threads[j].args ++ thrsB (r.threads.drop (j + 1)))) := by
    have e2 : r.threads = r.threads.take j ++ r.threads[j] :: r.threads.drop (j + 1) := by rw [← List.drop_eq_getElem_cons hj, List.take_append_drop]
    have e3 := congrArg thrsB e2
    refine e3.trans ?_
    rw [thrsB, List.flatMap_append, List.flatMap_cons, thrB, List.append_assoc]
    rfl
  rw [← h.eq]
  simp [encR, pR3, pR2, pR1, pR0, e, List.append_assoc]
theorem nums_len {t : Thr} (h : t.regs.length = 16) : t.nums.length = 19 := by simp [Thr.nums, h]
theorem rd3 (h : r.Enc b) {j : Nat} (hj : j < r.threads.length) : exR b 19 ((pR3 r j).length : Int) = some (r.threads[j].nums, ((pR3 r j ++ listB r.threads[j].nums).length : Int)) := by
  have hm := List.getElem_mem hj
  have hl := nums_len (h.regs _ hm)
  have e := exR_listB r.threads[j].nums (pR3 r j) (listB r.threads[j].args ++ (thrsB (r.threads.drop (j + 1)) ++ (listB (outL r.output) ++ listB r.stop))) (h.ok.threads _ hm).nums 19 (by omega) (by omega)
  rw [rest3 h hj] at e
  rw [e]; simp
theorem rd3' (h : r.Enc b) {j : Nat} (hj : j < r.threads.length) : listR b 19 ((pR3 r j).length : Int) = some (r.threads[j].nums, ((pR3 r j ++ listB r.threads[j].nums).length : Int)) := by
  have hm := List.getElem_mem hj
  have hl := nums_len (h.regs _ hm)
  have e := listR_listB r.threads[j].nums (pR3 r j) (listB r.threads[j].args ++ (thrsB (r.threads.drop (j + 1)) ++ (listB (outL r.output) ++ listB r.stop))) (h.ok.threads _ hm).nums 19 (by omega) (by omega)
  rw [rest3 h hj] at e
  rw [e]; simp
theorem rd4 (h : r.Enc b) {j : Nat} (hj : j < r.threads.length) : listR b 4 ((pR3 r j ++ listB r.threads[j].nums).length : Int) = some (r.threads[j].args, ((pR3 r (j + 1)).length : Int)) := by
  have hm := List.getElem_mem hj
  have hl := h.fits.args _ hm
  have e := listR_listB r.threads[j].args (pR3 r j ++ listB r.threads[j].nums) (thrsB (r.threads.drop (j + 1)) ++ (listB (outL r.output) ++ listB r.stop)) (h.ok.threads _ hm).args 4 (by omega) (by omega)
  rw [List.append_assoc, rest3 h hj] at e
  rw [e]; simp [pR3, thrsB_take _ _ hj]; omega
theorem rd5 (h : r.Enc b) : listR b 256 ((pR3 r r.threads.length).length : Int) = some (outL r.output, ((pR4 r).length : Int)) := by
  have ho := outL_len r.output
  have hf := h.fits.output
  have e := listR_listB (outL r.output) (pR3 r r.threads.length) (listB r.stop) h.ok.output 256 (by omega) (by omega)
  have hb : pR3 r r.threads.length ++ (listB (outL r.output) ++ listB r.stop) = b := by rw [← h.eq, encR_eq, pR4, List.append_assoc]
  rw [hb] at e
  rw [e]; simp [pR4]
theorem rd6 (h : r.Enc b) : exR b 7 ((pR4 r).length : Int) = some (r.stop, (b.length : Int)) := by
  have e := exR_listB r.stop (pR4 r) [] h.ok.stop 7 rfl (by simp [Rep.stop])
  have hb : pR4 r ++ (listB r.stop ++ []) = b := by rw [List.append_nil, ← encR_eq, h.eq]
  rw [hb] at e
  rw [e, ← h.eq, encR_eq]; simp
theorem rd6' (h : r.Enc b) : listR b 7 ((pR4 r).length : Int) = some (r.stop, (b.length : Int)) := by
  have e := listR_listB r.stop (pR4 r) [] h.ok.stop 7 (by simp [Rep.stop]) (by simp [Rep.stop])
  have hb : pR4 r ++ (listB r.stop ++ []) = b := by rw [List.append_nil, ← encR_eq, h.eq]
  rw [hb] at e
  rw [e, ← h.eq, encR_eq]; simp
theorem listIs_eq {x : Option (List Int × Int)} {l m : List Int} {st : Option Int} {q : Int} (h : ListIs x l st) (e : x = some (m, q)) : l = m ∧ st = some q := by
  rcases h with ⟨q', h, rfl⟩ | ⟨h, _⟩
  · rw [e] at h
    simp only [Option.some.injEq, Prod.mk.injEq] at h
    exact ⟨h.1.symm, by rw [h.2]⟩
  · rw [e] at h; cases h
end
/-- a thread of the numbers read -/
def thrOf (l args : List Int) : Thr := ⟨l[0]?.getD 0, l.drop 3, l[2]?.getD 0, l[1]?.getD 0, args⟩
theorem thrOf_nums (t : Thr) : thrOf t.nums t.args = t := rfl
theorem thrOf_back {l args : List Int} (h : l.length = 19) : (thrOf l args).nums = l := by
  match l, h with
  | a :: b :: c :: l, _ => rfl
def outP : List Int → List (Int × Int)
  | a :: b :: l => (a, b) :: outP l
  | _ => []
theorem outP_outL : ∀ l : List (Int × Int), outP (outL l) = l
  | [] => rfl
  | p :: l => by rw [outL_cons, outP, outP_outL l]
theorem rep_one {r q : Rep} {b : List UInt8} (h : r.Enc b) (k : q.Enc b) : r = q := by
  have a0 := rd0 h
  rw [rd0 k] at a0
  simp only [at_, Prod.mk.injEq, Option.some.injEq] at a0
  obtain ⟨e0, p0⟩ := a0
  have a1 := rd1 h
  rw [← p0, rd1 k] at a1
  simp only [Option.some.injEq, Prod.mk.injEq] at a1
  obtain ⟨e1, p1⟩ := a1
  have a2 := rdU h
  rw [← p1, rdU k] at a2
  simp only [Prod.mk.injEq, and_true] at a2
  obtain ⟨e2, p2⟩ := a2
  have hl : q.threads.length = r.threads.length := by omega
  have key : ∀ j, j ≤ r.threads.length → q.threads.take j = r.threads.take j ∧ ((pR3 q j).length : Int) = ((pR3 r j).length : Int) := by
    intro j
    induction j with
    | zero => intro _; exact ⟨by simp, by simp [pR3, thrsB]; simpa using p2⟩
    | succ j ih =>
      intro hj
      obtain ⟨i1, i2⟩ := ih (by omega)
      have hj1 : j < r.threads.length := by omega
      have hj2 : j < q.threads.length := by omega
      have b3 := rd3 h hj1
      rw [← i2, rd3 k hj2] at b3
      simp only [Option.some.injEq, Prod.mk.injEq] at b3
      have b4 := rd4 h hj1
      rw [← b3.2, rd4 k hj2] at b4
      simp only [Option.some.injEq, Prod.mk.injEq] at b4
      refine ⟨?_, b4.2⟩
      rw [List.take_succ_eq_append_getElem hj1, List.take_succ_eq_append_getElem hj2, i1, ← thrOf_nums q.threads[j], b3.1, b4.1, thrOf_nums]
  obtain ⟨t1, t2⟩ := key r.threads.length (Nat.le_refl _)
  have et : q.threads = r.threads := by
    rw [List.take_length, ← hl, List.take_length] at t1
    exact t1
  have a5 := rd5 h
  rw [← t2, ← hl, rd5 k] at a5
  simp only [Option.some.injEq, Prod.mk.injEq] at a5
  have a6 := rd6 h
  rw [← a5.2, rd6 k] at a6
  simp only [Option.some.injEq, Prod.mk.injEq, and_true] at a6
  have eo : q.output = r.output := by rw [← outP_outL q.output, a5.1, outP_outL]
  simp only [Rep.stop, List.cons.injEq, and_true] at a6
  obtain ⟨s0, s1, s2, s3, s4, s5, s6⟩ := a6
  exact rep_eq e0.symm e1.symm et.symm eo.symm s0.symm s1.symm s2.symm s3.symm s4.symm s5.symm s6.symm
theorem DecRIs.one {b : List UInt8} {c d : Rep} {x y : Int} (h : DecRIs b c x) (k : DecRIs b d y) : c = d ∧ x = y := by
  rcases h with ⟨rfl, h⟩ | ⟨rfl, rfl, h⟩ <;> rcases k with ⟨rfl, k⟩ | ⟨rfl, rfl, k⟩
  · exact ⟨rep_one h k, rfl⟩
  · exact absurd ⟨_, h⟩ k
  · exact absurd ⟨_, k⟩ h
  · exact ⟨rfl, rfl⟩
theorem dec_ownR {r q : Rep} {er : Int} (h : r.Ok) (hf : r.Fits) (hr : ∀ t ∈ r.threads, t.regs.length = 16) (k : DecRIs (encR r) q er) : q = r ∧ er = 0 := by
  rcases k with ⟨rfl, k⟩ | ⟨_, _, k⟩
  · exact ⟨rep_one k ⟨h, hf, hr, rfl⟩, rfl⟩
  · exact absurd ⟨r, h, hf, hr, rfl⟩ k
end Go.Proofs.Ytoeibcpjmoekpaa
