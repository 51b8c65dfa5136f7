/- Poll of the reference. -/
import Derived.Test.YtpngmnfjefplkaaTraF
namespace Go.Proofs.Ytpngmnfjefplkaa
open Go.RowKit
set_option linter.unusedVariables false

/-- where the reference's Poll stands: the endpoint's variable h, its result h + 1 -/
structure PSr (w : World) (h : Nat) (yq : Value) (e : EP) (W : World) : Prop where
  ep : W.heap[h]? = some (.cells #[.int .i64 e.epoch, .int .i64 e.peer, .int .i64 e.acked, .int .i64 e.sent, .int .i64 e.got, .int .i64 e.timer, yq, .bool e.owe] 50 (0, 0))
  res : W.heap[h + 1]? = some (.cells #[.int .i64 0, .int .i64 0, .int .i64 0, .int .i64 0, .int .i64 0, .int .i64 0, .slice none 0 0, .bool false] 50 (0, 0))
  ext : Ext w W
theorem PSr.kept {w : World} {h : Nat} {yq : Value} {e : EP} {W W' : World} (H : PSr w h yq e W) (hk : Kept (h + 2) [] W W') (hh : w.heap.size ≤ h) : PSr w h yq e W' :=
  ⟨hk.heap H.ep (by omega) (by simp), hk.heap H.res (by omega) (by simp), hk.ext H.ext (by omega) (by simp)⟩
theorem PSr.put {w : World} {h : Nat} {yq : Value} {e : EP} {W : World} (H : PSr w h yq e W) (hh : w.heap.size ≤ h) (j : Nat) (u : Value) (e' : EP)
    (he : ((#[.int .i64 e.epoch, .int .i64 e.peer, .int .i64 e.acked, .int .i64 e.sent, .int .i64 e.got, .int .i64 e.timer, yq, .bool e.owe] : Array Value).setIfInBounds j u) = #[.int .i64 e'.epoch, .int .i64 e'.peer, .int .i64 e'.acked, .int .i64 e'.sent, .int .i64 e'.got, .int .i64 e'.timer, yq, .bool e'.owe]) :
    PSr w h yq e' (W.setCell ⟨h, j, none⟩ u) :=
  ⟨by rw [blk_set H.ep j u, he], blk_far H.res (by show h + 1 ≠ h; omega) u, H.ext.setCell (by show w.heap.size ≤ h; exact hh) u⟩
theorem PSr.size {w : World} {h : Nat} {yq : Value} {e : EP} {W : World} (H : PSr w h yq e W) : h + 2 ≤ W.heap.size := by
  have := heap_lt H.res
  omega
theorem QOwn.putR {base : Nat} {W : World} {y : Value} {q : List (List UInt8)} (H : QOwn base W y q) {h : Nat} {cs : Array Value} (hb : W.heap[h]? = some (.cells cs 50 (0, 0))) (j : Nat) (u : Value) : QOwn base (W.setCell ⟨h, j, none⟩ u) y q :=
  H.far (gset W ⟨h, j, none⟩ u) hb (by decide) (by decide)
theorem exec_load2 : True := trivial
set_option maxHeartbeats 1000000 in
set_option maxRecDepth 100000 in
theorem refPoll_any (v : Value) (e : EP) (now : Int) (w : World) (he : EPAt w v e) (ht : e.Tame) (hc : e.Cons) (hn : tame now) :
    Calls Try.prog 25 #[v, .int .i64 now] w (PollPost e now w) := by
  obtain ⟨y, rfl, hq⟩ := he
  obtain ⟨A, c, rfl, hcap⟩ := hq.form
  have HQ := Lib.hid hq
  have HT := Lib.hid ht
  have HC := Lib.hid hc
  have HN := Lib.hid hn
  clear hq ht hc hn
  go_enter Try.func25, Try.ntmps25
  go_upto_region 1 with fail
  obtain ⟨W, hW, hE, hB, hZ⟩ : ∃ W, W = (w.alloc (.cells #[.int .i64 e.epoch, .int .i64 e.peer, .int .i64 e.acked, .int .i64 e.sent, .int .i64 e.got, .int .i64 e.timer, .slice A e.queue.length c, .bool e.owe] 50)).alloc (.cells #[.int .i64 0, .int .i64 0, .int .i64 0, .int .i64 0, .int .i64 0, .int .i64 0, .slice none 0 0, .bool false] 50) ∧ Ext w W ∧ W.heap[w.heap.size]? = some (.cells #[.int .i64 e.epoch, .int .i64 e.peer, .int .i64 e.acked, .int .i64 e.sent, .int .i64 e.got, .int .i64 e.timer, .slice A e.queue.length c, .bool e.owe] 50 (0, 0)) ∧ W.heap[w.heap.size + 1]? = some (.cells #[.int .i64 0, .int .i64 0, .int .i64 0, .int .i64 0, .int .i64 0, .int .i64 0, .slice none 0 0, .bool false] 50 (0, 0)) := ⟨_, rfl, ((Ext.refl w).alloc _).alloc _, ((Ext.refl _).alloc _).heap (heap_alloc_new w _), by have := heap_alloc_new (w.alloc (.cells #[.int .i64 e.epoch, .int .i64 e.peer, .int .i64 e.acked, .int .i64 e.sent, .int .i64 e.got, .int .i64 e.timer, .slice A e.queue.length c, .bool e.owe] 50)) (.cells #[.int .i64 0, .int .i64 0, .int .i64 0, .int .i64 0, .int .i64 0, .int .i64 0, .slice none 0 0, .bool false] 50); simpa using this⟩
  rw [← hW]
  clear hW
  have H5 : PSr w w.heap.size (.slice A e.queue.length c) e W := ⟨hB, hZ, hE⟩
  clear hB hZ hE
  obtain ⟨q0, q1, q2, q3, q4, q5, q6, q7⟩ := blk8 H5.ep
  go_upto_if 9 with fail
  go_cut [6] (fun s wx => ∃ e1 out, PSr w w.heap.size (.slice A e.queue.length c) e1 wx ∧ QOwn (w.heap.size + 2) wx s out ∧ Hid ((e1, out) = pollM e now) ∧ Hid (e1.queue = e.queue) ∧ out.length ≤ 10)
  case first =>
    by_cases hp0 : e.peer = 0
    · have hp0' : (e.peer == 0) = true := by simp [hp0]
      have HP0 := Lib.hid hp0
      clear hp0
      by_cases htm : e.timer ≤ now
      · have htm' : decide (e.timer ≤ now) = true := by simpa using htm
        go_wp2_with fail
        refine (refsend_any _ _ ⟨1, e.epoch, 0, 0, 0, []⟩ [] (w.heap.size + 2) W ⟨_, rfl, InV.nil _⟩ (QOwn.nil _) H5.size (by simp) (by simp)).mono ?_
        rintro en w6 ⟨y6, rfl, hq6, hk6⟩
        obtain ⟨A6, c6, rfl, _⟩ := hq6.in_.form
        have H6 := H5.kept hk6 (Nat.le_refl _)
        have hwr : IntKind.i64.wrap (now + 8) = now + 8 := by have := HN.out; unfold tame at this; rw [IntKind.wrap_i64]; omega
        clear q0 q1 q2 q3 q4 q5 q6 q7
        obtain ⟨q0, q1, q2, q3, q4, q5, q6, q7⟩ := blk8 H6.ep
        have f5 := blk_free H6.ep 5
        have hlt6 := heap_lt H6.ep
        have hout := sendF_len [] ⟨1, e.epoch, 0, 0, 0, []⟩
        have HS : Hid (pollM e now = (⟨e.epoch, e.peer, e.acked, e.sent, e.got, now + 8, e.queue, e.owe⟩, sendF [] ⟨1, e.epoch, 0, 0, 0, []⟩)) := Lib.hid (by rw [pollM, if_pos HP0.out, if_pos htm])
        generalize sendF [] ⟨1, e.epoch, 0, 0, 0, []⟩ = so at *
        go_wp2_with fail
        go_meet
        refine ⟨⟨e.epoch, e.peer, e.acked, e.sent, e.got, now + 8, e.queue, e.owe⟩, so, H6.put (Nat.le_refl _) 5 _ _ rfl, hq6.putR H6.ep 5 _, Lib.hid HS.out.symm, Lib.hid rfl, by simp at hout; omega⟩
      · have htm' : decide (e.timer ≤ now) = false := by simpa using htm
        go_wp2_with fail
        go_meet
        exact ⟨e, [], H5, QOwn.nil _, Lib.hid (by rw [pollM, if_pos HP0.out, if_neg (by omega)]), Lib.hid rfl, by simp⟩
    · have hp0' : (e.peer == 0) = false := by simp [hp0]
      have HP0 := Lib.hid hp0
      clear hp0
      go_upto_region 6 with fail
      rw [hp0']
      clear hp0'
      go_cut [6, 32] (fun o s wx => o = .slice none 0 0 ∧ s = .bool (decide (e.acked < e.sent) && decide (e.timer ≤ now)) ∧ W = wx)
      case first =>
        by_cases t1 : e.acked < e.sent
        · have t1' : decide (e.acked < e.sent) = true := by simpa using t1
          go_wp2_with fail
          go_meet
          exact ⟨rfl, by rw [t1']; rfl, rfl⟩
        · have t1' : decide (e.acked < e.sent) = false := by simpa using t1
          go_wp2_with fail
          go_meet
          exact ⟨rfl, by rw [t1']; rfl, rfl⟩
      case rest =>
        obtain ⟨rfl, rfl, rfl⟩ := hcut
        go_upto_if 32 with fail
        go_cut [6] (fun o wx => o = .slice none 0 0 ∧ PSr w w.heap.size (.slice A e.queue.length c) (e.at_ now (e.first now) 0) wx)
        case first =>
          by_cases t1 : e.acked < e.sent ∧ e.timer ≤ now
          · have t1' : (decide (e.acked < e.sent) && decide (e.timer ≤ now)) = true := by simp [t1]
            have hf : e.first now = e.acked := by rw [EP.first, if_pos t1]
            rw [t1']
            have f3 := blk_free H5.ep 3
            have hlt6 := heap_lt H5.ep
            clear t1 t1'
            go_wp2_with fail
            go_meet
            rw [hf, at_zero]
            exact ⟨rfl, H5.put (Nat.le_refl _) 3 _ _ rfl⟩
          · have t1' : (decide (e.acked < e.sent) && decide (e.timer ≤ now)) = false := by
              by_cases h1 : e.acked < e.sent
              · have h2 : ¬ e.timer ≤ now := fun h => t1 ⟨h1, h⟩
                simp [h2]
              · simp [h1]
            have hf : e.first now = e.sent := by rw [EP.first, if_neg t1]
            rw [t1']
            clear t1 t1'
            go_wp2_with fail
            go_meet
            rw [hf, at_zero]
            exact ⟨rfl, H5⟩
        case rest =>
          obtain ⟨rfl, H6⟩ := hcut
          clear q0 q1 q2 q3 q4 q5 q6 q7 H5
          obtain ⟨s0, hs0⟩ : ∃ s0, s0 = e.first now := ⟨_, rfl⟩
          rw [← hs0] at H6
          have hs1 : e.acked ≤ s0 ∧ s0 - e.acked ≤ e.queue.length ∧ tame s0 := by
            obtain ⟨c1, c2', c3⟩ := HC.out
            rw [hs0, EP.first]
            split
            · exact ⟨by omega, by omega, HT.out.acked⟩
            · exact ⟨by omega, by omega, HT.out.sent⟩
          obtain ⟨d, hd⟩ : ∃ d : Nat, s0 - e.acked = d := ⟨(s0 - e.acked).toNat, by omega⟩
          have HS0 := Lib.hid hs0
          have HD := Lib.hid hd
          have hdl : d ≤ e.queue.length := by omega
          have hql := HT.out.queue
          have HT0 := Lib.hid hs1.2.2
          clear hs0 hs1 hd
          go_wp2_with fail
          go_loopw [6] (fun s wr => ∃ k : Nat, k ≤ min 4 e.queue.length - d ∧ PSr w w.heap.size (.slice A e.queue.length c) (e.at_ now s0 k) wr ∧ QOwn (w.heap.size + 2) wr s (outsL e s0 k)) (fun _ wr => (s0 + 5 - intOf ((wr.cell? ⟨w.heap.size, 3, none⟩).getD undef)).toNat)
          case atStart => exact ⟨0, by omega, H6, QOwn.nil _⟩
          case round =>
            clear H6
            obtain ⟨k, hk, hT, hO⟩ := hrel
            obtain ⟨wo, rfl⟩ : ∃ wo : World, wo = wr := ⟨_, rfl⟩
            have hep := hT.ep
            simp only [EP.at_] at hep
            obtain ⟨tm, htm⟩ : ∃ tm, tm = (if k = 0 then e.timer else now + 8) := ⟨_, rfl⟩
            rw [← htm] at hep
            have HTM := Lib.hid htm
            clear htm
            have hol := outsL_len e s0 k
            have HOS : Hid (outsL e s0 (k + 1) = sendF (outsL e s0 k) (dataP e s0 k)) := Lib.hid rfl
            obtain ⟨Ao, co, ho, _⟩ := hO.in_.form
            subst ho
            obtain ⟨q0, q1, q2, q3, q4, q5, q6, q7⟩ := blk8 hep
            obtain ⟨j, hj⟩ : ∃ j : Nat, j = d + k := ⟨_, rfl⟩
            have hwr4 : IntKind.i64.wrap (e.acked + 4) = e.acked + 4 := by have := HT.out.acked; unfold tame at this; rw [IntKind.wrap_i64]; omega
            have hwrl : IntKind.i64.wrap (e.acked + (e.queue.length : Int)) = e.acked + e.queue.length := by have := HT.out.acked; unfold tame at this; rw [IntKind.wrap_i64]; omega
            have HJ := Lib.hid hj
            clear hj
            go_upto_region 8 with fail
            go_cut [6, 52] (fun o s wx => o = .slice Ao (outsL e s0 k).length co ∧ s = .bool (decide (j < 4) && decide (j < e.queue.length)) ∧ wo = wx)
            case first =>
              by_cases t1 : s0 + k < e.acked + 4
              · have HT1 : Hid (decide (j < 4) = true) := Lib.hid (by have := HJ.out; have := HD.out; simp; omega)
                by_cases t2 : s0 + k < e.acked + e.queue.length
                · have HT2 : Hid (decide (j < e.queue.length) = true) := Lib.hid (by have := HJ.out; have := HD.out; simp; omega)
                  go_wp2_with fail
                  go_meet
                  exact ⟨rfl, by rw [HT1.out, HT2.out]; rfl, rfl⟩
                · have HT2 : Hid (decide (j < e.queue.length) = false) := Lib.hid (by have := HJ.out; have := HD.out; simp; omega)
                  go_wp2_with fail
                  go_meet
                  exact ⟨rfl, by rw [HT1.out, HT2.out]; rfl, rfl⟩
              · have HT1 : Hid (decide (j < 4) = false) := Lib.hid (by have := HJ.out; have := HD.out; simp; omega)
                go_wp2_with fail
                go_meet
                exact ⟨rfl, by rw [HT1.out]; rfl, rfl⟩
            case rest =>
              obtain ⟨rfl, rfl, rfl⟩ := hcut
              cases hbb : (decide (j < 4) && decide (j < e.queue.length)) with
              | true =>
                obtain ⟨t1, t2⟩ : j < 4 ∧ j < e.queue.length := by simpa using hbb
                clear hbb
                obtain ⟨bb, oo, x, rfl, hcx, hix⟩ := HQ.out.at_ t2
                have HB : Hid (dataP e s0 k = ⟨2, e.epoch, e.peer, s0 + k + 1, e.got, e.queue[j]⟩) := Lib.hid (by
                  have := HD.out; have := HJ.out
                  rw [dataP, show (s0 - e.acked).toNat + k = j by omega, List.getElem?_eq_getElem t2]; rfl)
                have hbl := HT.out.bodies _ (List.getElem_mem t2)
                generalize e.queue[j] = bj at *
                obtain ⟨Ax, cx, rfl, _, _⟩ := id hix
                have hwr2 : IntKind.i64.wrap (s0 + (k : Int) + 1) = s0 + (k : Int) + 1 := by have := HT0.out; unfold tame at this; rw [IntKind.wrap_i64]; omega
                have hwr5 : IntKind.i64.wrap (s0 + (k : Int) + 1 - e.acked) = (j : Int) + 1 := by have := HD.out; have := HJ.out; rw [IntKind.wrap_i64]; omega
                have hwr7 : IntKind.i64.wrap (j : Int) = (j : Int) := by rw [IntKind.wrap_i64]; omega
                have hwr6 : IntKind.i64.wrap ((j : Int) + 1 - 1) = (j : Int) := by rw [IntKind.wrap_i64]; omega
                have f3 := blk_free hep 3
                have hlt6 := heap_lt hep
                have hij : (j : Int) < (e.queue.length : Int) := by omega
                have hT6 : PSr w w.heap.size (.slice (some ⟨bb, oo, none⟩) e.queue.length c) ⟨e.epoch, e.peer, e.acked, s0 + k, e.got, tm, e.queue, e.owe⟩ wo := ⟨hep, hT.res, hT.ext⟩
                have hT7 : PSr w w.heap.size (.slice (some ⟨bb, oo, none⟩) e.queue.length c) ⟨e.epoch, e.peer, e.acked, s0 + k + 1, e.got, tm, e.queue, e.owe⟩ (wo.setCell ⟨w.heap.size, 3, none⟩ (.int .i64 (s0 + (k : Int) + 1))) := hT6.put (Nat.le_refl _) 3 _ _ rfl
                have hO7 := hO.putR hep 3 (.int .i64 (s0 + (k : Int) + 1))
                have HMX : Hid (((wo.cell? ⟨w.heap.size, 3, none⟩).getD undef) = .int .i64 (s0 + (k : Int))) := Lib.hid (by rw [q3]; rfl)
                go_upto_region 10 with fail
                clear q0 q1 q2 q3 q4 q5 q6 q7 f3 hT hT6 hep hO hwr4 hwrl hwr2
                generalize wo.setCell ⟨w.heap.size, 3, none⟩ (.int .i64 (s0 + (k : Int) + 1)) = w7 at *
                generalize outsL e s0 k = ou at *
                have hcx7 := hT7.ext.cell hcx
                have hix7 := hix.ext hT7.ext
                have hep7 := hT7.ep
                refine wp_region_X #[true, true, true, true, true, true, true, true, true, true, true, true, true, true, true, true, true, true, true, true, false, false] 20 2 (by kernel_rfl) rfl ?_
                refine wpX_vt 0 (.slice Ao ou.length co) rfl rfl (by kernel_rfl) (by kernel_rfl) (by kernel_rfl) (fun _ _ _ _ h => h) (by kernel_rfl) rfl (by rfl) (fun W' hW => by
                  skip
                  go_simp) ?_
                simp only [List.setIfInBounds_toArray, List.set_cons_zero, List.set_cons_succ]
                refine wpX_vt 1 (.pointer (some ⟨w.heap.size, 0, none⟩)) rfl rfl (by kernel_rfl) (by kernel_rfl) (by kernel_rfl) (fun _ _ _ _ h => h) (by kernel_rfl) rfl (by rfl) (fun W' hW => by
                  skip
                  go_simp) ?_
                simp only [List.setIfInBounds_toArray, List.set_cons_zero, List.set_cons_succ]
                refine wpX_vt 2 (.int .i64 e.epoch) rfl rfl (by kernel_rfl) (by kernel_rfl) (by kernel_rfl) (fun _ _ _ _ h => h) (by kernel_rfl) rfl (by rfl) (fun W' hW => by
                  have z := blk_at ((((Ext.refl w7).drew).trans hW).heap hep7) 0 _ rfl
                  go_simp) ?_
                simp only [List.setIfInBounds_toArray, List.set_cons_zero, List.set_cons_succ]
                refine wpX_vt 3 (.pointer (some ⟨w.heap.size, 1, none⟩)) rfl rfl (by kernel_rfl) (by kernel_rfl) (by kernel_rfl) (fun _ _ _ _ h => h) (by kernel_rfl) rfl (by rfl) (fun W' hW => by
                  skip
                  go_simp) ?_
                simp only [List.setIfInBounds_toArray, List.set_cons_zero, List.set_cons_succ]
                refine wpX_vt 4 (.int .i64 e.peer) rfl rfl (by kernel_rfl) (by kernel_rfl) (by kernel_rfl) (fun _ _ _ _ h => h) (by kernel_rfl) rfl (by rfl) (fun W' hW => by
                  have z := blk_at ((((Ext.refl w7).drew).trans hW).heap hep7) 1 _ rfl
                  go_simp) ?_
                simp only [List.setIfInBounds_toArray, List.set_cons_zero, List.set_cons_succ]
                refine wpX_vt 5 (.pointer (some ⟨w.heap.size, 3, none⟩)) rfl rfl (by kernel_rfl) (by kernel_rfl) (by kernel_rfl) (fun _ _ _ _ h => h) (by kernel_rfl) rfl (by rfl) (fun W' hW => by
                  skip
                  go_simp) ?_
                simp only [List.setIfInBounds_toArray, List.set_cons_zero, List.set_cons_succ]
                refine wpX_vt 6 (.int .i64 (s0 + (k : Int) + 1)) rfl rfl (by kernel_rfl) (by kernel_rfl) (by kernel_rfl) (fun _ _ _ _ h => h) (by kernel_rfl) rfl (by rfl) (fun W' hW => by
                  have z := blk_at ((((Ext.refl w7).drew).trans hW).heap hep7) 3 _ rfl
                  go_simp) ?_
                simp only [List.setIfInBounds_toArray, List.set_cons_zero, List.set_cons_succ]
                refine wpX_vt 7 (.pointer (some ⟨w.heap.size, 4, none⟩)) rfl rfl (by kernel_rfl) (by kernel_rfl) (by kernel_rfl) (fun _ _ _ _ h => h) (by kernel_rfl) rfl (by rfl) (fun W' hW => by
                  skip
                  go_simp) ?_
                simp only [List.setIfInBounds_toArray, List.set_cons_zero, List.set_cons_succ]
                refine wpX_vt 8 (.int .i64 e.got) rfl rfl (by kernel_rfl) (by kernel_rfl) (by kernel_rfl) (fun _ _ _ _ h => h) (by kernel_rfl) rfl (by rfl) (fun W' hW => by
                  have z := blk_at ((((Ext.refl w7).drew).trans hW).heap hep7) 4 _ rfl
                  go_simp) ?_
                simp only [List.setIfInBounds_toArray, List.set_cons_zero, List.set_cons_succ]
                refine wpX_vt 9 (.pointer (some ⟨w.heap.size, 6, none⟩)) rfl rfl (by kernel_rfl) (by kernel_rfl) (by kernel_rfl) (fun _ _ _ _ h => h) (by kernel_rfl) rfl (by rfl) (fun W' hW => by
                  skip
                  go_simp) ?_
                simp only [List.setIfInBounds_toArray, List.set_cons_zero, List.set_cons_succ]
                refine wpX_vt 10 (.slice (some ⟨bb, oo, none⟩) e.queue.length c) rfl rfl (by kernel_rfl) (by kernel_rfl) (by kernel_rfl) (fun _ _ _ _ h => h) (by kernel_rfl) rfl (by rfl) (fun W' hW => by
                  have z := blk_at ((((Ext.refl w7).drew).trans hW).heap hep7) 6 _ rfl
                  go_simp) ?_
                simp only [List.setIfInBounds_toArray, List.set_cons_zero, List.set_cons_succ]
                refine wpX_vt 11 (.pointer (some ⟨w.heap.size, 3, none⟩)) rfl rfl (by kernel_rfl) (by kernel_rfl) (by kernel_rfl) (fun _ _ _ _ h => h) (by kernel_rfl) rfl (by rfl) (fun W' hW => by
                  skip
                  go_simp) ?_
                simp only [List.setIfInBounds_toArray, List.set_cons_zero, List.set_cons_succ]
                refine wpX_vt 12 (.int .i64 (s0 + (k : Int) + 1)) rfl rfl (by kernel_rfl) (by kernel_rfl) (by kernel_rfl) (fun _ _ _ _ h => h) (by kernel_rfl) rfl (by rfl) (fun W' hW => by
                  have z := blk_at ((((Ext.refl w7).drew).trans hW).heap hep7) 3 _ rfl
                  go_simp) ?_
                simp only [List.setIfInBounds_toArray, List.set_cons_zero, List.set_cons_succ]
                refine wpX_vt 13 (.pointer (some ⟨w.heap.size, 2, none⟩)) rfl rfl (by kernel_rfl) (by kernel_rfl) (by kernel_rfl) (fun _ _ _ _ h => h) (by kernel_rfl) rfl (by rfl) (fun W' hW => by
                  skip
                  go_simp) ?_
                simp only [List.setIfInBounds_toArray, List.set_cons_zero, List.set_cons_succ]
                refine wpX_vt 14 (.int .i64 e.acked) rfl rfl (by kernel_rfl) (by kernel_rfl) (by kernel_rfl) (fun _ _ _ _ h => h) (by kernel_rfl) rfl (by rfl) (fun W' hW => by
                  have z := blk_at ((((Ext.refl w7).drew).trans hW).heap hep7) 2 _ rfl
                  go_simp) ?_
                simp only [List.setIfInBounds_toArray, List.set_cons_zero, List.set_cons_succ]
                refine wpX_vt 15 (.int .i64 ((j : Int) + 1)) rfl rfl (by kernel_rfl) (by kernel_rfl) (by kernel_rfl) (fun _ _ _ _ h => h) (by kernel_rfl) rfl (by rfl) (fun W' hW => by
                  skip
                  go_simp) ?_
                simp only [List.setIfInBounds_toArray, List.set_cons_zero, List.set_cons_succ]
                refine wpX_vt 16 (.int .i64 (j : Int)) rfl rfl (by kernel_rfl) (by kernel_rfl) (by kernel_rfl) (fun _ _ _ _ h => h) (by kernel_rfl) rfl (by rfl) (fun W' hW => by
                  skip
                  go_simp) ?_
                simp only [List.setIfInBounds_toArray, List.set_cons_zero, List.set_cons_succ]
                refine wpX_vt 17 (.pointer (some ⟨bb, oo + j, none⟩)) rfl rfl (by kernel_rfl) (by kernel_rfl) (by kernel_rfl) (fun _ _ _ _ h => h) (by kernel_rfl) rfl (by rfl) (fun W' hW => by
                  skip
                  go_simp) ?_
                simp only [List.setIfInBounds_toArray, List.set_cons_zero, List.set_cons_succ]
                refine wpX_vt 18 (.slice Ax bj.length cx) rfl rfl (by kernel_rfl) (by kernel_rfl) (by kernel_rfl) (fun _ _ _ _ h => h) (by kernel_rfl) rfl (by rfl) (fun W' hW => by
                  have z := (((Ext.refl w7).drew).trans hW).cell hcx7
                  go_simp) ?_
                simp only [List.setIfInBounds_toArray, List.set_cons_zero, List.set_cons_succ]
                refine wpX_vt 19 (.agg #[.int .i64 2, .int .i64 e.epoch, .int .i64 e.peer, .int .i64 (s0 + (k : Int) + 1), .int .i64 e.got, .slice Ax bj.length cx]) rfl rfl (by kernel_rfl) (by kernel_rfl) (by kernel_rfl) (fun _ _ _ _ h => h) (by kernel_rfl) rfl (by rfl) (fun W' hW => by
                  skip
                  go_simp) ?_
                simp only [List.setIfInBounds_toArray, List.set_cons_zero, List.set_cons_succ]
                refine wpX_end rfl fun Wd hWd => tail_seq 20 rfl (by kernel_rfl) ?_
                simp only [List.drop_succ_cons, List.drop_zero]
                have hXd := ((Ext.refl w7).drew).trans hWd
                have hTd : PSr w w.heap.size (.slice (some ⟨bb, oo, none⟩) e.queue.length c) ⟨e.epoch, e.peer, e.acked, s0 + k + 1, e.got, tm, e.queue, e.owe⟩ Wd := ⟨hXd.heap hT7.ep, hXd.heap hT7.res, hT7.ext.trans hXd⟩
                have hOd := hO7.ext hXd
                have hixd := hix7.ext hXd
                clear hXd hWd hT7 hO7 hix7 hcx7 hep7 hcx hix
                go_wp2_with fail
                refine (refsend_any _ _ ⟨2, e.epoch, e.peer, s0 + k + 1, e.got, bj⟩ ou (w.heap.size + 2) Wd ⟨_, rfl, hixd⟩ hOd hTd.size (by omega) hbl).mono ?_
                rintro en w8 ⟨y8, rfl, hq8, hk8⟩
                have hT8 := hTd.kept hk8 (Nat.le_refl _)
                have hep8 := hT8.ep
                go_wp2_with fail
                refine NoPanic.normal ?_
                have hwr3 : IntKind.i64.wrap (now + 8) = now + 8 := by have := HN.out; unfold tame at this; rw [IntKind.wrap_i64]; omega
                clear hTd hOd hixd hk8 hwr5 hwr6
                obtain ⟨q0, q1, q2, q3, q4, q5, q6, q7⟩ := blk8 hep8
                have f5 := blk_free hep8 5
                have hlt8 := heap_lt hep8
                go_wp2_with fail
                have hT9 : PSr w w.heap.size (.slice (some ⟨bb, oo, none⟩) e.queue.length c) (e.at_ now s0 (k + 1)) (w8.setCell ⟨w.heap.size, 5, none⟩ (.int .i64 (now + 8))) := hT8.put (Nat.le_refl _) 5 _ _ (by simp [EP.at_, Int.add_assoc])
                go_roundw
                case rel =>
                  refine ⟨k + 1, by have := HJ.out; omega, hT9, ?_⟩
                  rw [HOS.out, HB.out]
                  exact hq8.putR hep8 5 _
                case measure =>
                  have h3 := blk_at (blk_set hep8 5 (.int .i64 (now + 8))) 3 (.int .i64 (s0 + (k : Int) + 1)) rfl
                  rw [h3, HMX.out]
                  simp [intOf]; omega
              | false =>
                have HKK : Hid (k = min 4 e.queue.length - d) := Lib.hid (by
                  have : ¬ (j < 4 ∧ j < e.queue.length) := by
                    intro h; simp [h.1, h.2] at hbb
                  have := HJ.out
                  omega)
                clear hbb
                have HPM : Hid (pollM e now = (e.at_ now s0 k, if (outsL e s0 k).length = 0 ∧ e.owe = true then sendF (outsL e s0 k) ⟨3, e.epoch, e.peer, 0, e.got, []⟩ else outsL e s0 k)) := Lib.hid (by
                  have hh : min 4 e.queue.length - (s0 - e.acked).toNat = k := by have := HD.out; have := HKK.out; omega
                  rw [pollM, if_neg HP0.out, ← HS0.out, hh])
                have hk4 : k ≤ 4 := by have := HKK.out; omega
                generalize outsL e s0 k = ou at *
                by_cases ho0 : ou.length = 0
                · have ho0' : ((ou.length : Int) == 0) = true := by simp [ho0]
                  have HO0 := Lib.hid ho0
                  clear ho0
                  by_cases how : e.owe = true
                  · have HOW := Lib.hid how
                    have q7' : wo.cell? ⟨w.heap.size, 7, none⟩ = some (.bool true) := by rw [q7, how]
                    clear how q7
                    go_wp2_with fail
                    refine (refsend_any _ _ ⟨3, e.epoch, e.peer, 0, e.got, []⟩ ou (w.heap.size + 2) wo ⟨_, rfl, InV.nil _⟩ hO hT.size (by omega) (by simp)).mono ?_
                    rintro en w8 ⟨y8, rfl, hq8, hk8⟩
                    have hT8 := hT.kept hk8 (Nat.le_refl _)
                    go_wp2_with fail
                    go_meet
                    refine ⟨e.at_ now s0 k, sendF ou ⟨3, e.epoch, e.peer, 0, e.got, []⟩, hT8, hq8, Lib.hid (by rw [HPM.out, if_pos ⟨HO0.out, HOW.out⟩]), Lib.hid rfl, ?_⟩
                    have := sendF_len ou ⟨3, e.epoch, e.peer, 0, e.got, []⟩
                    omega
                  · have HOW := Lib.hid how
                    have q7' : wo.cell? ⟨w.heap.size, 7, none⟩ = some (.bool false) := by rw [q7, Bool.eq_false_iff.2 how]
                    clear how q7
                    go_wp2_with fail
                    go_meet
                    exact ⟨e.at_ now s0 k, ou, hT, hO, Lib.hid (by rw [HPM.out, if_neg (fun h => HOW.out h.2)]), Lib.hid rfl, by omega⟩
                · have ho0' : ((ou.length : Int) == 0) = false := by simpa using ho0
                  have HO0 := Lib.hid ho0
                  clear ho0
                  go_wp2_with fail
                  go_meet
                  exact ⟨e.at_ now s0 k, ou, hT, hO, Lib.hid (by rw [HPM.out, if_neg (fun h => HO0.out h.1)]), Lib.hid rfl, by omega⟩
  case rest =>
    clear H5 q0 q1 q2 q3 q4 q5 q6 q7
    obtain ⟨e1, out, hT, hoo, HM, HQU, hol⟩ := hcut
    obtain ⟨Ay, cy, hv, _⟩ := hoo.in_.form
    subst hv
    have hB6 := hT.ep
    have hZ6 := hT.res
    have hE6 := hT.ext
    clear hT
    by_cases ho0 : out.length = 0
    · have ho0' : ¬ (0 : Int) < (out.length : Int) := by omega
      have HW : Hid (e1.owe = (e1.quiet out).owe) := Lib.hid (by simp [EP.quiet, ho0])
      clear ho0
      go_upto_region 16 with fail
      generalize wc = w7 at *
      have hst := run_storeAt_blk (P := Try.prog) w7 (w.heap.size + 1) 50 50 _ #[.int .i64 e1.epoch, .int .i64 e1.peer, .int .i64 e1.acked, .int .i64 e1.sent, .int .i64 e1.got, .int .i64 e1.timer, .slice A e.queue.length c, .bool e1.owe] hZ6 re_size rfl (by simp [Value.oneCell'])
      have hld := run_loadAt_blk (P := Try.prog) w7 w.heap.size 50 50 _ (0, 0) _ hB6 Try.underlying50 rfl re_size
      go_wp2_with first | refine wpList_load_run rfl 50 (.tmp 2) rfl _ _ rfl hld ?_ | refine wpList_store_run rfl 50 (.tmp 4) (.tmp 101) rfl _ _ _ rfl rfl hst ?_
      have hZ9 := setRow_heap w7 (w.heap.size + 1) _ #[.int .i64 e1.epoch, .int .i64 e1.peer, .int .i64 e1.acked, .int .i64 e1.sent, .int .i64 e1.got, .int .i64 e1.timer, .slice A e.queue.length c, .bool e1.owe] _ _ hZ6
      have hg9 := gsetRow w7 (w.heap.size + 1) #[.int .i64 e1.epoch, .int .i64 e1.peer, .int .i64 e1.acked, .int .i64 e1.sent, .int .i64 e1.got, .int .i64 e1.timer, .slice A e.queue.length c, .bool e1.owe]
      have ho9 := hoo.far hg9 hZ6 (by decide) (by decide)
      have hE9 := hE6.grown hg9 (fun k e => by cases e; omega)
      have hq9 := HQ.out.ext hE9
      clear hst hld hg9
      generalize w7.setRow (w.heap.size + 1) #[.int .i64 e1.epoch, .int .i64 e1.peer, .int .i64 e1.acked, .int .i64 e1.sent, .int .i64 e1.got, .int .i64 e1.timer, .slice A e.queue.length c, .bool e1.owe] = w9 at *
      obtain ⟨k0, k1, k2, k3, k4, k5, k6, k7⟩ := blk8 hZ9
      refine bodyPost_ret (v := .tuple #[.agg #[.int .i64 e1.epoch, .int .i64 e1.peer, .int .i64 e1.acked, .int .i64 e1.sent, .int .i64 e1.got, .int .i64 e1.timer, .slice A e.queue.length c, .bool e1.owe], .slice Ay out.length cy]) (by simp [results, Try.results25, go_sem, k0, k1, k2, k3, k4, k5, k6, k7]) rfl ?_
      refine ⟨_, _, e1.quiet out, out, by rw [HW.out]; rfl, by rw [pollF, ← HM.out], ?_, ho9.in_, hE9⟩
      show QIn w9 _ e1.queue
      rw [HQU.out]
      exact hq9
    · have ho0' : (0 : Int) < (out.length : Int) := by omega
      have HW : Hid (false = (e1.quiet out).owe) := Lib.hid (by simp [EP.quiet, ho0])
      clear ho0
      obtain ⟨q0, q1, q2, q3, q4, q5, q6, q7⟩ := blk8 hB6
      have f7 := blk_free hB6 7
      have hlt6 := heap_lt hB6
      go_upto_region 16 with fail
      have hB7 := blk_set hB6 7 (.bool false)
      have hZ7 := blk_far hZ6 (p := ⟨w.heap.size, 7, none⟩) (by show w.heap.size + 1 ≠ w.heap.size; omega) (.bool false)
      have hoo7 := hoo.putR hB6 7 (.bool false)
      have hE7 := hE6.setCell (p := ⟨w.heap.size, 7, none⟩) (Nat.le_refl _) (.bool false)
      clear q0 q1 q2 q3 q4 q5 q6 q7 f7 hB6 hZ6 hoo hE6 hlt6
      generalize wc.setCell ⟨w.heap.size, 7, none⟩ (.bool false) = w7 at *
      have hB6 := hB7
      have hZ6 := hZ7
      have hoo := hoo7
      have hE6 := hE7
      clear hB7 hZ7 hoo7 hE7
      have hst := run_storeAt_blk (P := Try.prog) w7 (w.heap.size + 1) 50 50 _ #[.int .i64 e1.epoch, .int .i64 e1.peer, .int .i64 e1.acked, .int .i64 e1.sent, .int .i64 e1.got, .int .i64 e1.timer, .slice A e.queue.length c, .bool false] hZ6 re_size rfl (by simp [Value.oneCell'])
      have hld := run_loadAt_blk (P := Try.prog) w7 w.heap.size 50 50 _ (0, 0) _ hB6 Try.underlying50 rfl re_size
      go_wp2_with first | refine wpList_load_run rfl 50 (.tmp 2) rfl _ _ rfl hld ?_ | refine wpList_store_run rfl 50 (.tmp 4) (.tmp 101) rfl _ _ _ rfl rfl hst ?_
      have hZ9 := setRow_heap w7 (w.heap.size + 1) _ #[.int .i64 e1.epoch, .int .i64 e1.peer, .int .i64 e1.acked, .int .i64 e1.sent, .int .i64 e1.got, .int .i64 e1.timer, .slice A e.queue.length c, .bool false] _ _ hZ6
      have hg9 := gsetRow w7 (w.heap.size + 1) #[.int .i64 e1.epoch, .int .i64 e1.peer, .int .i64 e1.acked, .int .i64 e1.sent, .int .i64 e1.got, .int .i64 e1.timer, .slice A e.queue.length c, .bool false]
      have ho9 := hoo.far hg9 hZ6 (by decide) (by decide)
      have hE9 := hE6.grown hg9 (fun k e => by cases e; omega)
      have hq9 := HQ.out.ext hE9
      clear hst hld hg9
      generalize w7.setRow (w.heap.size + 1) #[.int .i64 e1.epoch, .int .i64 e1.peer, .int .i64 e1.acked, .int .i64 e1.sent, .int .i64 e1.got, .int .i64 e1.timer, .slice A e.queue.length c, .bool false] = w9 at *
      obtain ⟨k0, k1, k2, k3, k4, k5, k6, k7⟩ := blk8 hZ9
      refine bodyPost_ret (v := .tuple #[.agg #[.int .i64 e1.epoch, .int .i64 e1.peer, .int .i64 e1.acked, .int .i64 e1.sent, .int .i64 e1.got, .int .i64 e1.timer, .slice A e.queue.length c, .bool false], .slice Ay out.length cy]) (by simp [results, Try.results25, go_sem, k0, k1, k2, k3, k4, k5, k6, k7]) rfl ?_
      refine ⟨_, _, e1.quiet out, out, by rw [HW.out]; rfl, by rw [pollF, ← HM.out], ?_, ho9.in_, hE9⟩
      show QIn w9 _ e1.queue
      rw [HQU.out]
      exact hq9
end Go.Proofs.Ytpngmnfjefplkaa
