/- Replies: whether one is small. -/
import Derived.Test.YtoeibcpjmoekpaaRepA
namespace Go.Proofs.Ytoeibcpjmoekpaa
open Go.RowKit
set_option linter.unusedVariables false
structure Rep.Small (r : Rep) : Prop where
  words : r.words.length ≤ 300
  threads : r.threads.length ≤ 20
  output : r.output.length ≤ 300
  args : ∀ t ∈ r.threads, t.args.length ≤ 20
set_option maxHeartbeats 1000000 in
set_option maxRecDepth 100000 in
theorem small_any (v : Value) (r : Rep) (w : World) (hr : RepAt w v r) (h1 : r.threads.length ≤ 9223372036854775807) :
    Calls Try.prog 30 #[v] w (Tells r.Small w) := by
  obtain ⟨yw, yt, yo, rfl, hi⟩ := hr
  obtain ⟨A, ca, rfl, _, _⟩ := id hi.words
  obtain ⟨B, cb, rfl⟩ := hi.threads.form
  obtain ⟨C, cc, rfl⟩ := hi.output.form
  go_enter Try.func30, Try.ntmps30
  go_upto_region 1 with fail
  obtain ⟨W, hW, hE, hB⟩ : ∃ W, W = w.alloc (.cells #[.int .i64 r.err, .slice A r.words.length ca, .slice B r.threads.length cb, .slice C r.output.length cc, .int .i64 r.s0, .int .i64 r.s1, .int .i64 r.s2, .int .i64 r.s3, .int .i64 r.s4, .int .i64 r.s5, .int .i64 r.s6] 58) ∧ Ext w W ∧ W.heap[w.heap.size]? = some (.cells #[.int .i64 r.err, .slice A r.words.length ca, .slice B r.threads.length cb, .slice C r.output.length cc, .int .i64 r.s0, .int .i64 r.s1, .int .i64 r.s2, .int .i64 r.s3, .int .i64 r.s4, .int .i64 r.s5, .int .i64 r.s6] 58 (0, 0)) := ⟨_, rfl, (Ext.refl w).alloc _, heap_alloc_new w _⟩
  rw [← hW]
  clear hW
  obtain ⟨q0, q1, q2, q3, q4, q5, q6, q7, q8, q9, q10⟩ := blk11 hB
  by_cases t0 : 300 < r.words.length
  · have e0 : (300 : Int) < (r.words.length : Int) := by omega
    go_wp2_with fail
    go_ret
    exact Tells.no (fun h => by have := h.words; omega) hE
  have e0 : ¬ (300 : Int) < (r.words.length : Int) := by omega
  by_cases t1 : 20 < r.threads.length
  · have e1 : (20 : Int) < (r.threads.length : Int) := by omega
    go_wp2_with fail
    go_ret
    exact Tells.no (fun h => by have := h.threads; omega) hE
  have e1 : ¬ (20 : Int) < (r.threads.length : Int) := by omega
  by_cases t2 : 300 < r.output.length
  · have e2 : (300 : Int) < (r.output.length : Int) := by omega
    go_wp2_with fail
    go_ret
    exact Tells.no (fun h => by have := h.output; omega) hE
  have e2 : ¬ (300 : Int) < (r.output.length : Int) := by omega
  go_wp2_with fail
  go_loopw [3] (fun i wr => ∃ j : Nat, j ≤ r.threads.length ∧ i = .int .i64 (j : Int) ∧ (∀ t ∈ r.threads.take j, t.args.length ≤ 20) ∧ Ext W wr) (fun i _ => r.threads.length - (intOf i).toNat)
  case atStart => exact ⟨0, by omega, rfl, by simp, Ext.refl _⟩
  case round =>
    clear q0 q1 q2 q3 q4 q5 q6 q7 q8 q9 q10
    obtain ⟨j, hj, rfl, hall, hX⟩ := hrel
    have HA := Lib.hid hall
    clear hall
    obtain ⟨q0, q1, q2, q3, q4, q5, q6, q7, q8, q9, q10⟩ := blk11 (hX.heap hB)
    by_cases hlt : j < r.threads.length
    · obtain ⟨b, off, y, rfl, hrg, hti⟩ := (hi.threads.ext (hE.trans hX)).at_ hlt
      have HT := Lib.hid (List.take_succ_eq_append_getElem hlt)
      have HM := Lib.hid (List.getElem_mem hlt)
      generalize r.threads[j] = t at *
      obtain ⟨hreg, harg⟩ := hti.both
      obtain ⟨Y, cy, rfl, _, _⟩ := id harg
      have c19 := hrg 19 _ (thr_19 hreg)
      have hij : (j : Int) < (r.threads.length : Int) := by omega
      by_cases ha : 20 < t.args.length
      · have ea : (20 : Int) < (t.args.length : Int) := by omega
        clear hrg
        go_wp2_with fail
        go_ret
        exact Tells.no (fun h => by have := h.args _ HM.out; omega) (hE.trans hX)
      · have ea : ¬ (20 : Int) < (t.args.length : Int) := by omega
        clear hrg
        go_wp2_with fail
        go_roundw
        case rel => exact ⟨j + 1, by omega, by go_num, by
          rw [HT.out]
          intro t' ht'
          rcases List.mem_append.1 ht' with h | h
          · exact HA.out t' h
          · simp only [List.mem_singleton] at h
            subst h; omega, hX⟩
        case measure => simp [intOf]; omega
    · obtain rfl : j = r.threads.length := by omega
      go_wp2_with fail
      go_ret
      exact Tells.yes ⟨by omega, by omega, by omega, by have := HA.out; rwa [List.take_length] at this⟩ (hE.trans hX)
end Go.Proofs.Ytoeibcpjmoekpaa
