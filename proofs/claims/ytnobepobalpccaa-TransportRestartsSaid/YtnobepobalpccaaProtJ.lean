/- exchange: a tick at both ends. -/
import Derived.Test.YtnobepobalpccaaProtI
namespace Go.Proofs.Ytnobepobalpccaa
open Go.RowKit
set_option linter.unusedVariables false

def XPost (E : List Nat) (now : Int) (w0 w : World) (ba bb : Nat) (a b : SD) (ga gb : Value) (en : Ending) (w' : World) : Prop := ∃ v a' b' ga' gb', en = .returned v ∧ Exch now a b a' b' ∧ XSt E w0 w' ba bb a' b' ga' gb' ∧ Kept w.heap.size (xsOf [] ba bb ga gb) w w' ∧ (∀ k, ga'.ownBlock = some k → w.heap.size ≤ k ∨ k ∈ xsOf [] ba bb ga gb) ∧ (∀ k, gb'.ownBlock = some k → w.heap.size ≤ k ∨ k ∈ xsOf [] ba bb ga gb)
theorem Kept.ext2 {b : Nat} {xs : List Nat} {w W W' : World} (h : Kept b xs w W) (hb : b ≤ w.heap.size) (hx : Ext W W') : Kept b xs w W' := h.trans (Kept.of_ext hx (Nat.le_trans hb h.size))
theorem Kept.grow2 {b : Nat} {xs : List Nat} {w W W' : World} {r : Nat} (h : Kept b xs w W) (hb : b ≤ w.heap.size) (hg : W.grownBy W' (some r)) (hr : b ≤ r ∨ r ∈ xs) : Kept b xs w W' := h.trans (Kept.of_grown hg (Nat.le_trans hb h.size) (fun k e => by cases e; exact hr))
def SD.more (s : SD) (l : List UInt8) : SD := ⟨s.e, s.fl, s.fates, s.sent, s.got ++ l, s.resets⟩
/-- what has been delivered grows -/
theorem XSt.append {E : List Nat} {w0 W W1 : World} {ba bb : Nat} {a b : SD} {ga gb v' : Value} {l : List UInt8} (h : XSt E w0 W ba bb a b ga gb) (ho : OwnV bv 5 w0.heap.size W1 v' (a.got ++ l)) (hg : Grew W W1 ga v') :
    XSt E w0 (W1.setCell ⟨ba, 11, none⟩ v') ba bb (a.more l) b v' gb := by
  obtain ⟨Aq, cq, Af, fc, ftv, zs, hblk, hQ, hz, hfl, hbd, hft⟩ := h.sa.ex
  have hbl1 : W1.heap[ba]? = some _ := blk_grown hblk hg.grown (fun e => h.sa.ne_got h.oa e.symm)
  have hbl2 := blk_set hbl1 11 v'
  have hg2 := gset W1 ⟨ba, 11, none⟩ v'
  have k1 : Kept W.heap.size (xsOf E ba bb ga gb) W W1 := Kept.of_grown hg.grown (Nat.le_refl _) (fun k e => .inr (by rw [mem_xs]; exact .inr (.inr (.inl e))))
  have k2 : Kept W.heap.size (xsOf E ba bb ga gb) W (W1.setCell ⟨ba, 11, none⟩ v') := k1.trans (Kept.of_grown hg2 k1.size (fun k e => by cases e; exact .inr (by rw [mem_xs]; exact .inl rfl)))
  have hy : ∀ y ∈ xsOf E ba bb v' gb, y ∈ xsOf E ba bb ga gb ∨ W.heap.size ≤ y := fun y hy => by
    rw [mem_xs] at hy
    rcases hy with e | e | e | e
    · exact .inl (by rw [mem_xs]; exact .inl e)
    · exact .inl (by rw [mem_xs]; exact .inr (.inl e))
    · rcases hg.lies with e2 | ⟨g, e2, hg2⟩
      · exact .inl (by rw [mem_xs]; exact .inr (.inr (.inl (e2 ▸ e))))
      · rw [e2] at e; injection e with e; exact .inr (by omega)
    · exact .inl (by rw [mem_xs]; exact .inr (.inr (.inr e)))
  have hbb : (W1.setCell ⟨ba, 11, none⟩ v').heap[bb]? = W.heap[bb]? := (hg2.block _ (Nat.lt_of_lt_of_le h.sb.lt hg.grown.size) (fun e => h.ne (by cases e; rfl))).trans (hg.grown.block _ h.sb.lt (fun e => h.sb.ne_got h.oa e.symm))
  have hob1 : OwnV bv 5 w0.heap.size W1 gb b.got := h.ob.kept hg.grown (by
    cases e : gb.ownBlock with
    | none => exact .inl rfl
    | some k => exact .inr (fun e2 => h.gne k e2.symm e))
  refine ⟨⟨Aq, cq, Af, fc, ftv, zs, hbl2, hQ.mono k2 hy, hz, hfl.mono k2 hy, fun z hz => (hbd z hz).mono k2 hy, hft.mono k2 hy⟩, h.sb.mono k2 hy hbb, h.ne, ?_, hob1.kept hg2 (.inr (hob1.ne_blk hbl1 (by decide))), fun k hk e => ?_, h.la, h.lb, (hg.ext h.ext h.oa.ge).grown hg2 (fun k e => by cases e; exact h.la), fun x hx => ?_⟩
  · exact ho.kept hg2 (.inr (ho.ne_blk hbl1 (by decide)))
  · rcases hg.lies with e2 | ⟨g, e2, hg3⟩
    · exact h.gne k (e2 ▸ hk) e
    · rw [e2] at hk
      injection hk with hk
      have := h.ob.lt k e
      omega
  · obtain ⟨b1, b2, b3, b4, b5, b6⟩ := h.beside x hx
    refine ⟨b1, Nat.lt_of_lt_of_le b2 k2.size, b3, b4, fun e => ?_, b6⟩
    rcases hg.lies with e2 | ⟨g, e2, hg3⟩
    · exact b5 (e2 ▸ e)
    · rw [e2] at e
      injection e with e
      omega
theorem St.append {E : List Nat} {w0 W W1 : World} {ba bb : Nat} {a b : SD} {ga gb v' : Value} {φ : World → Prop} (h : XSt E w0 W ba bb a b ga gb) (hg : Grew W W1 ga v') (hs : St (xsOf E bb ba gb ga) W φ) : St (xsOf E bb ba gb v') (W1.setCell ⟨ba, 11, none⟩ v') φ := by
  have hg2 := gset W1 ⟨ba, 11, none⟩ v'
  have k1 : Kept W.heap.size (xsOf E bb ba gb ga) W W1 := Kept.of_grown hg.grown (Nat.le_refl _) (fun k e => .inr (by rw [mem_xs]; exact .inr (.inr (.inr (.inl e)))))
  have k2 : Kept W.heap.size (xsOf E bb ba gb ga) W (W1.setCell ⟨ba, 11, none⟩ v') := k1.trans (Kept.of_grown hg2 k1.size (fun k e => by cases e; exact .inr (by rw [mem_xs]; exact .inr (.inl rfl))))
  refine hs.mono k2 fun y hy => ?_
  rw [mem_xs] at hy
  rcases hy with e | e | e | e | e
  · exact .inl (by rw [mem_xs]; exact .inl e)
  · exact .inl (by rw [mem_xs]; exact .inr (.inl e))
  · exact .inl (by rw [mem_xs]; exact .inr (.inr (.inl e)))
  · rcases hg.lies with e2 | ⟨g, e2, hg2⟩
    · exact .inl (by rw [mem_xs]; exact .inr (.inr (.inr (.inl (e2 ▸ e)))))
    · rw [e2] at e; injection e with e; exact .inr (by omega)
  · exact .inl (by rw [mem_xs]; exact .inr (.inr (.inr (.inr e))))
theorem flat_take_len (l : List (List UInt8)) (r : Nat) : (l.take r).flatten.length ≤ l.flatten.length := by
  have : l.flatten = (l.take r).flatten ++ (l.drop r).flatten := by rw [← List.flatten_append, List.take_append_drop]
  rw [this, List.length_append]
  omega
theorem recvF_ms (e : EP) (p : Pkt) (er : Int) : (recvF e p er).2.1.length ≤ 1 := by
  have h3 : ∀ e', (recv3 e' p).2.length ≤ 1 := fun e' => by
    unfold recv3
    split
    · split <;> simp
    · split <;> simp
  unfold recvF
  split
  · simp
  · split
    · simp
    · exact h3 _
theorem filter_plain (zs : List FZ) (now : Int) : (zs.map FZ.plain).filter (fun z => decide (now < z.1)) = (zs.filter (fun z => decide (now < z.1))).map FZ.plain ∧ ((zs.map FZ.plain).filter (fun z => !decide (now < z.1))).map (·.2) = (zs.filter (fun z => !decide (now < z.1))).map (·.2.b) := by
  refine ⟨?_, ?_⟩
  · rw [List.filter_map]; rfl
  · rw [List.filter_map, List.map_map]; rfl
set_option maxHeartbeats 4000000 in
set_option maxRecDepth 100000 in
theorem exchange_any (E : List Nat) (w0 : World) (ba bb : Nat) (a b : SD) (ga gb : Value) (now : Int) (m n : Nat) (w : World) (hX : XSt E w0 w ba bb a b ga gb) (ha : a.LS m n) (hb : b.LS m n) (hm : m ≤ 1000000) (hn : n ≤ 100000) (hnow : 0 ≤ now ∧ now ≤ 10000) :
    Calls Try.prog 12 #[.pointer (some ⟨ba, 0, none⟩), .pointer (some ⟨bb, 0, none⟩), .int .i64 now] w (XPost E now w0 w ba bb a b ga gb) := by
  have HA := Lib.hid ha
  have HB := Lib.hid hb
  have HN := Lib.hid hnow
  clear ha hb hnow
  go_enter Try.func12, Try.ntmps12
  go_wp2_with fail
  go_loopw [6] (fun i wr => ∃ j : Nat, j ≤ 2 ∧ i = .int .i64 (j : Int) ∧ XSt E w0 wr ba bb (if j = 0 then a else pollS now a) (if j = 2 then pollS now b else b) ga gb ∧ Kept w.heap.size (xsOf [] ba bb ga gb) w wr) (fun i _ => 2 - (intOf i).toNat)
  case atStart => exact ⟨0, by omega, rfl, hX, Kept.refl _ _ _⟩
  case round =>
    clear hX
    obtain ⟨j, hj, rfl, hX, hK⟩ := hrel
    obtain ⟨wo, rfl⟩ : ∃ wo : World, wo = wr := ⟨_, rfl⟩
    by_cases hj2 : j < 2
    · have hij : (j : Int) < 2 := by omega
      go_upto_if 24 with fail
      go_cut [7] (fun p wx => ∃ (bx by' : Nat) (X Y : SD) (gx gy : Value), p = .pointer (some ⟨bx, 0, none⟩) ∧ X.LS m n ∧ XSt E w0 wx bx by' X Y gx gy ∧ (∀ y, y ∈ xsOf [] bx by' gx gy ↔ y ∈ xsOf [] ba bb ga gb) ∧ Hid (∀ W', XSt E w0 W' bx by' (pollS now X) Y gx gy → XSt E w0 W' ba bb (if j + 1 = 0 then a else pollS now a) (if j + 1 = 2 then pollS now b else b) ga gb) ∧ Kept w.heap.size (xsOf [] ba bb ga gb) w wx)
      case first =>
        by_cases h0 : j = 0
        · have h1 : ((j : Int) == 1) = false := by simp; omega
          have h1' : (j == 1) = false := by simp; omega
          rw [if_pos h0, if_neg (by omega)] at hX
          have HC : Hid (∀ W', XSt E w0 W' ba bb (pollS now a) b ga gb → XSt E w0 W' ba bb (if j + 1 = 0 then a else pollS now a) (if j + 1 = 2 then pollS now b else b) ga gb) := Lib.hid (fun W' h => by rw [if_neg (by omega), if_neg (by omega)]; exact h)
          clear h0
          go_wp2_with fail
          go_meet
          exact ⟨ba, bb, a, b, ga, gb, rfl, HA.out, hX, fun _ => Iff.rfl, HC, hK⟩
        · have h1 : ((j : Int) == 1) = true := by simp; omega
          have h1' : (j == 1) = true := by simp; omega
          rw [if_neg h0, if_neg (by omega)] at hX
          have HC : Hid (∀ W', XSt E w0 W' bb ba (pollS now b) (pollS now a) gb ga → XSt E w0 W' ba bb (if j + 1 = 0 then a else pollS now a) (if j + 1 = 2 then pollS now b else b) ga gb) := Lib.hid (fun W' h => by rw [if_neg (by omega), if_pos (by omega)]; exact h.symm)
          clear h0
          go_wp2_with fail
          go_meet
          refine ⟨bb, ba, b, pollS now a, gb, ga, rfl, HB.out, hX.symm, fun y => ?_, HC, hK⟩
          rw [mem_xs, mem_xs]
          constructor
          · rintro (h | h | h | h | h)
            · exact .inr (.inl h)
            · exact .inl h
            · exact .inr (.inr (.inr (.inl h)))
            · exact .inr (.inr (.inl h))
            · cases h
          · rintro (h | h | h | h | h)
            · exact .inr (.inl h)
            · exact .inl h
            · exact .inr (.inr (.inr (.inl h)))
            · exact .inr (.inr (.inl h))
            · cases h
      case rest =>
        clear hX hK
        obtain ⟨bx, by', X, Y, gx, gy, rfl, hLS, hX, hxs, HC, hK⟩ := hcut
        have HXS := Lib.hid hxs
        have HLS := Lib.hid hLS
        have hbxm : bx ∈ xsOf [] ba bb ga gb := (hxs bx).1 (by rw [mem_xs]; exact .inl rfl)
        have HBX := Lib.hid hbxm
        clear hxs hLS hbxm
        obtain ⟨Aq, cq, Af, fc, ftv, zs, hblk, hQ, hz, hfl, hbd, hft⟩ := hX.sa.ex
        have hld := sd_load hblk
        go_wp2_with first | refine wpList_load_run rfl 26 (.tmp 30) rfl _ _ rfl hld ?_
        refine (Poll_own _ X.e now wc ⟨_, rfl, hQ.out⟩ HLS.out.e.tame HLS.out.e.cons (by have := HN.out; unfold tame; omega)).mono ?_
        rintro en w1 ⟨y1, yo, e1, out, rfl, heq, hq1, ho1, hx1⟩
        obtain ⟨A1, c1, rfl, _⟩ := hq1.in_.form
        obtain ⟨B1, d1, rfl, _⟩ := ho1.in_.form
        obtain ⟨w2, hst, hblk2, hg2⟩ := sd_store (hx1.heap hblk) e1 A1 e1.queue.length c1
        clear hld
        go_upto_region 8 with first | refine wpList_store_run rfl 26 (.tmp 37) (.tmp 34) rfl _ _ _ rfl rfl hst ?_
        have hkA : Kept w1.heap.size (xsOf E bx by' gx gy) w1 w2 := XSt.keptA hg2
        have hll : ∀ y ∈ xsOf E bx by' gx gy, y ∈ xsOf E bx by' gx gy ∨ w1.heap.size ≤ y := fun y hy => .inl hy
        have hX2 : XSt E w0 w2 bx by' (X.setE e1) Y gx gy := (hX.extW hx1).upA hg2 rfl ⟨A1, c1, Af, fc, ftv, zs, hblk2, (((Fr.qOwn hq1).st hX.lt).imp fun _ h => h.in_).mono hkA hll, hz, (hfl.ext hx1).mono hkA hll, fun z hz => ((hbd z hz).ext hx1).mono hkA hll, (hft.ext hx1).mono hkA hll⟩
        have hL2 : St (xsOf E bx by' gx gy) w2 (fun W => QIn W (.slice B1 out.length d1) out) := (((Fr.qOwn ho1).st hX.lt).imp fun _ h => h.in_).mono hkA hll
        have hK2 := (hK.ext2 (Nat.le_refl _) hx1).grow2 (Nat.le_refl _) hg2 (.inr HBX.out)
        have HPS : Hid (pollS now X = sendAll now (X.setE e1) out) := Lib.hid (by rw [pollS, ← heq])
        have HOW : Hid ((∀ b ∈ out, Own (X.setE e1).e b) ∧ out.length ≤ 5 ∧ (X.setE e1).LS m n) := Lib.hid (by
          have h1 := fun b hb => Own.poll (e := X.e) (now := now) (b := b) HLS.out.e hb
          have h2 := pollF_len5 (e := X.e) now
          have h3 := HLS.out.setE HN.out
          rw [← heq] at h1 h2 h3
          exact ⟨h1, h2, h3⟩)
        clear hX hblk hQ hz hfl hbd hft hK hst hblk2 hg2 hq1 ho1 hx1 hkA hll heq zs
        go_wp2_with fail
        go_loopw [9] (fun i wr => ∃ q : Nat, q ≤ out.length ∧ i = .int .i64 (q : Int) ∧ XSt E w0 wr bx by' (sendAll now (X.setE e1) (out.take q)) Y gx gy ∧ St (xsOf E bx by' gx gy) wr (fun W => QIn W (.slice B1 out.length d1) out) ∧ Kept w.heap.size (xsOf [] ba bb ga gb) w wr) (fun i _ => out.length - (intOf i).toNat)
        case atStart => exact ⟨0, by omega, rfl, hX2, hL2, hK2⟩
        case round =>
          clear hX2 hL2 hK2
          obtain ⟨q, hq, rfl, hX, hL, hK⟩ := hrel
          obtain ⟨wz, rfl⟩ : ∃ wz : World, wz = wr := ⟨_, rfl⟩
          by_cases hql : q < out.length
          · have hqi : (q : Int) < (out.length : Int) := by omega
            have hLSq : (sendAll now (X.setE e1) (out.take q)).LS (m + 10) (n + 5) := by
              have h1 := SD.LS.sendAll (m := 0) (n := 0) (now := now) (out.take q) HOW.out.2.2 (fun b hb => HOW.out.1 b (List.mem_of_mem_take hb))
              have h2 := HOW.out.2.1
              exact h1.more (by simp; omega) (by simp; omega)
            have HST : Hid (sendAll now (X.setE e1) (out.take (q + 1)) = sendOne now (sendAll now (X.setE e1) (out.take q)) out[q]) := Lib.hid (by rw [List.take_succ_eq_append_getElem hql, sendAll_snoc])
            have hbl := (HOW.out.1 _ (List.getElem_mem hql)).len
            have hol5 := HOW.out.2.1
            obtain ⟨bo, oo, xv, rfl, hcx, hix⟩ := hL.out.at_ hql
            generalize sendAll now (X.setE e1) (out.take q) = Z at *
            generalize out[q] = bq at *
            obtain ⟨Ax, cx, rfl, _, _⟩ := id hix
            obtain ⟨Aq, cq, Af, fc, ftv, zs, hblk, hQ, hz, hfl, hbd, hft⟩ := hX.sa.ex
            obtain ⟨fz, hfz, hfi, hfd⟩ := id hft.out
            obtain ⟨Aft, cft, rfl, _, _⟩ := id hfi
            obtain ⟨c8, c9, c10, _, _⟩ := sd_at hblk
            have hfok := fateOf_ok hLSq.fates Z.sent
            have hfd2 : ∀ f ∈ Z.fates, f.delays.length ≤ 1000000 := fun f hf => by have := (hLSq.fates f hf).few; omega
            obtain ⟨f, hf⟩ : ∃ f, f = fateOf Z.fates Z.sent := ⟨_, rfl⟩
            rw [← hf] at hfok
            have HF := Lib.hid hf
            have hsent := hLSq.sent
            have hzl : zs.length = Z.fl.length := by rw [← hz]; simp
            have hzf := hLSq.few
            have HZ := Lib.hid hz
            have HZL := Lib.hid hzl
            have HBD := Lib.hid hbd
            have HFD2 := Lib.hid hfd2
            have hltb := heap_lt hblk
            have hfew := hfok.few
            clear hf hfd hfz hz hzl hbd hfd2
            go_upto_region 11 with fail
            refine wp_region_X #[true, true, true, true, true, true, true, true, true, true, true, true, true, true, true, true, true, true, true, true, false, false, false] 20 3 (by kernel_rfl) rfl ?_
            refine wpX_vt 0 (.pointer (some ⟨bx, 0, none⟩)) rfl rfl (by kernel_rfl) (by kernel_rfl) (by kernel_rfl) (fun _ _ _ _ h => h) (by kernel_rfl) rfl (by rfl) (fun W' hW => by
              skip
              go_simp) ?_
            simp only [List.setIfInBounds_toArray, List.set_cons_zero, List.set_cons_succ]
            refine wpX_vt 1 (.pointer (some ⟨bx, 0, none⟩)) rfl rfl (by kernel_rfl) (by kernel_rfl) (by kernel_rfl) (fun _ _ _ _ h => h) (by kernel_rfl) rfl (by rfl) (fun W' hW => by
              skip
              go_simp) ?_
            simp only [List.setIfInBounds_toArray, List.set_cons_zero, List.set_cons_succ]
            refine wpX_vt 2 (.pointer (some ⟨bx, 0, none⟩)) rfl rfl (by kernel_rfl) (by kernel_rfl) (by kernel_rfl) (fun _ _ _ _ h => h) (by kernel_rfl) rfl (by rfl) (fun W' hW => by
              skip
              go_simp) ?_
            simp only [List.setIfInBounds_toArray, List.set_cons_zero, List.set_cons_succ]
            refine wpX_vt 3 (.pointer (some ⟨bx, 8, none⟩)) rfl rfl (by kernel_rfl) (by kernel_rfl) (by kernel_rfl) (fun _ _ _ _ h => h) (by kernel_rfl) rfl (by rfl) (fun W' hW => by
              skip
              go_simp) ?_
            simp only [List.setIfInBounds_toArray, List.set_cons_zero, List.set_cons_succ]
            refine wpX_vt 4 (.slice Af Z.fl.length fc) rfl rfl (by kernel_rfl) (by kernel_rfl) (by kernel_rfl) (fun _ _ _ _ h => h) (by kernel_rfl) rfl (by rfl) (fun W' hW => by
              have z := (((Ext.refl wz).drew).trans hW).cell c8
              go_simp) ?_
            simp only [List.setIfInBounds_toArray, List.set_cons_zero, List.set_cons_succ]
            refine wpX_vt 5 (.pointer (some ⟨bx, 0, none⟩)) rfl rfl (by kernel_rfl) (by kernel_rfl) (by kernel_rfl) (fun _ _ _ _ h => h) (by kernel_rfl) rfl (by rfl) (fun W' hW => by
              skip
              go_simp) ?_
            simp only [List.setIfInBounds_toArray, List.set_cons_zero, List.set_cons_succ]
            refine wpX_vt 6 (.pointer (some ⟨bx, 0, none⟩)) rfl rfl (by kernel_rfl) (by kernel_rfl) (by kernel_rfl) (fun _ _ _ _ h => h) (by kernel_rfl) rfl (by rfl) (fun W' hW => by
              skip
              go_simp) ?_
            simp only [List.setIfInBounds_toArray, List.set_cons_zero, List.set_cons_succ]
            refine wpX_vt 7 (.pointer (some ⟨bx, 9, none⟩)) rfl rfl (by kernel_rfl) (by kernel_rfl) (by kernel_rfl) (fun _ _ _ _ h => h) (by kernel_rfl) rfl (by rfl) (fun W' hW => by
              skip
              go_simp) ?_
            simp only [List.setIfInBounds_toArray, List.set_cons_zero, List.set_cons_succ]
            refine wpX_vt 8 (.slice Aft fz.length cft) rfl rfl (by kernel_rfl) (by kernel_rfl) (by kernel_rfl) (fun _ _ _ _ h => h) (by kernel_rfl) rfl (by rfl) (fun W' hW => by
              have z := (((Ext.refl wz).drew).trans hW).cell c9
              go_simp) ?_
            simp only [List.setIfInBounds_toArray, List.set_cons_zero, List.set_cons_succ]
            refine wpX_vt 9 (.pointer (some ⟨bx, 0, none⟩)) rfl rfl (by kernel_rfl) (by kernel_rfl) (by kernel_rfl) (fun _ _ _ _ h => h) (by kernel_rfl) rfl (by rfl) (fun W' hW => by
              skip
              go_simp) ?_
            simp only [List.setIfInBounds_toArray, List.set_cons_zero, List.set_cons_succ]
            refine wpX_vt 10 (.pointer (some ⟨bx, 0, none⟩)) rfl rfl (by kernel_rfl) (by kernel_rfl) (by kernel_rfl) (fun _ _ _ _ h => h) (by kernel_rfl) rfl (by rfl) (fun W' hW => by
              skip
              go_simp) ?_
            simp only [List.setIfInBounds_toArray, List.set_cons_zero, List.set_cons_succ]
            refine wpX_vt 11 (.pointer (some ⟨bx, 10, none⟩)) rfl rfl (by kernel_rfl) (by kernel_rfl) (by kernel_rfl) (fun _ _ _ _ h => h) (by kernel_rfl) rfl (by rfl) (fun W' hW => by
              skip
              go_simp) ?_
            simp only [List.setIfInBounds_toArray, List.set_cons_zero, List.set_cons_succ]
            refine wpX_vt 12 (.int .i64 Z.sent) rfl rfl (by kernel_rfl) (by kernel_rfl) (by kernel_rfl) (fun _ _ _ _ h => h) (by kernel_rfl) rfl (by rfl) (fun W' hW => by
              have z := (((Ext.refl wz).drew).trans hW).cell c10
              go_simp) ?_
            simp only [List.setIfInBounds_toArray, List.set_cons_zero, List.set_cons_succ]
            refine wpX_vt 14 (.slice (some ⟨bo, oo, none⟩) out.length d1) rfl rfl (by kernel_rfl) (by kernel_rfl) (by kernel_rfl) (fun _ _ _ _ h => h) (by kernel_rfl) rfl (by rfl) (fun W' hW => by
              skip
              go_simp) ?_
            simp only [List.setIfInBounds_toArray, List.set_cons_zero, List.set_cons_succ]
            refine wpX_vt 15 (.int .i64 (q : Int)) rfl rfl (by kernel_rfl) (by kernel_rfl) (by kernel_rfl) (fun _ _ _ _ h => h) (by kernel_rfl) rfl (by rfl) (fun W' hW => by
              skip
              go_simp) ?_
            simp only [List.setIfInBounds_toArray, List.set_cons_zero, List.set_cons_succ]
            refine wpX_vt 16 (.pointer (some ⟨bo, oo + q, none⟩)) rfl rfl (by kernel_rfl) (by kernel_rfl) (by kernel_rfl) (fun _ _ _ _ h => h) (by kernel_rfl) rfl (by rfl) (fun W' hW => by
              skip
              go_simp) ?_
            simp only [List.setIfInBounds_toArray, List.set_cons_zero, List.set_cons_succ]
            refine wpX_vt 17 (.slice Ax bq.length cx) rfl rfl (by kernel_rfl) (by kernel_rfl) (by kernel_rfl) (fun _ _ _ _ h => h) (by kernel_rfl) rfl (by rfl) (fun W' hW => by
              have z := (((Ext.refl wz).drew).trans hW).cell hcx
              go_simp) ?_
            simp only [List.setIfInBounds_toArray, List.set_cons_zero, List.set_cons_succ]
            refine wpX_vt 18 (.int .i64 now) rfl rfl (by kernel_rfl) (by kernel_rfl) (by kernel_rfl) (fun _ _ _ _ h => h) (by kernel_rfl) rfl (by rfl) (fun W' hW => by
              skip
              go_simp) ?_
            simp only [List.setIfInBounds_toArray, List.set_cons_zero, List.set_cons_succ]
            refine wpX_c 13 17 #[.slice Aft fz.length cft, .int .i64 Z.sent] rfl rfl (by kernel_rfl) rfl rfl (fun W => by go_simp) ?_
            intro W1 hW1
            have hX1 := ((Ext.refl wz).drew).trans hW1
            refine (FateOf_any _ Z.fates Z.sent W1 (hft.ext hX1).out HFD2.out).mono ?_
            rw [← HF.out]
            rintro en w5 ⟨yd, rfl, hod, he5⟩
            refine ⟨_, rfl, he5, ?_⟩
            obtain ⟨Ad, cd, rfl, _, _⟩ := hod.inV
            simp only [List.setIfInBounds_toArray, List.set_cons_zero, List.set_cons_succ]
            refine wpX_c 19 16 #[.slice Af Z.fl.length fc, .agg #[.slice Ad f.delays.length cd, .int .i64 f.at_, .int .i64 f.mask], .slice Ax bq.length cx, .int .i64 now] rfl rfl (by kernel_rfl) rfl rfl (fun W => by go_simp) ?_
            intro W2 hW2
            have hX2 := (hX1.trans he5).trans hW2
            refine (Send34_any _ _ _ zs f bq now W2 (hfl.ext hX2).out (by rw [HZL.out]; omega) (hod.inV.ext hW2) (by omega) (hix.ext hX2) (by omega) hfok.mask (by have := hfok.at_; omega) (by have := HN.out; unfold tame; omega)).mono ?_
            rintro en w6 ⟨yf, new, rfl, hof, hnew, hnb, he6⟩
            refine ⟨_, rfl, he6, ?_⟩
            have hpl : (zs ++ new).map FZ.plain = Z.fl ++ sentL f bq now 8 := by rw [List.map_append, HZ.out, hnew]
            obtain ⟨A6, c6, hv6, _, _⟩ := hof.inR
            have hn6 : (zs ++ new).length = (Z.fl ++ sentL f bq now 8).length := by rw [← hpl]; simp
            rw [hn6] at hv6
            obtain ⟨N6, hN6⟩ : ∃ N6, N6 = (Z.fl ++ sentL f bq now 8).length := ⟨_, rfl⟩
            rw [← hN6] at hv6
            subst hv6
            have HN6 := Lib.hid hN6
            have HPL := Lib.hid hpl
            have HNB := Lib.hid hnb
            clear hN6 hn6 hpl hnew hnb
            simp only [List.setIfInBounds_toArray, List.set_cons_zero, List.set_cons_succ]
            refine wpX_end rfl fun W7 hW7 => tail_seq 20 rfl (by kernel_rfl) ?_
            simp only [List.drop_succ_cons, List.drop_zero]
            have hX6 := hX2.trans he6
            have hX7 := hX6.trans hW7
            have hlt2 : ∀ x ∈ xsOf E bx by' gx gy, x < W2.heap.size := fun x hx => Nat.lt_of_lt_of_le (hX.lt x hx) hX2.size
            have hflS : St (xsOf E bx by' gx gy) W7 (fun W => InR flCells W (.slice A6 N6 c6) (zs ++ new)) := (((Fr.ownR hof).st hlt2).ext hW7).imp fun _ h => h.inR
            have hnbS : ∀ z ∈ new, St (xsOf E bx by' gx gy) W7 (fun W => InB W (bodyV z.2) z.2.b) := fun z hz => (((Fr.ownV (HNB.out z hz)).st hlt2).ext hW7).imp fun _ h => h.inV
            have HNBS := Lib.hid hnbS
            have hblk7 := hX7.heap hblk
            have hK7 := hK.ext2 (Nat.le_refl _) hX7
            have f8 := blk_free hblk7 8
            have q8 := blk_at hblk7 8 _ rfl
            have hltb7 := heap_lt hblk7
            clear hnbS hW7 he6 hW2 he5 hW1 hof hod hX1 hX2 hX6 hcx c8 c9 c10 hlt2
            go_wp2_with fail
            refine NoPanic.normal ?_
            have hblk8 := blk_set hblk7 8 (.slice A6 N6 c6)
            have hg8 := gset W7 ⟨bx, 8, none⟩ (.slice A6 N6 c6)
            clear f8 q8
            generalize W7.setCell ⟨bx, 8, none⟩ (.slice A6 N6 c6) = W8 at *
            have f10 := blk_free hblk8 10
            have q10 : W8.cell? ⟨bx, 10, none⟩ = some (.int .i64 Z.sent) := blk_at hblk8 10 _ rfl
            have hltb8 := heap_lt hblk8
            have hws : IntKind.i64.wrap (Z.sent + 1) = Z.sent + 1 := by rw [IntKind.wrap_i64]; omega
            go_wp2_with fail
            have hblk9 := blk_set hblk8 10 (.int .i64 (Z.sent + 1))
            have hg9 := gset2 hg8 10 (.int .i64 (Z.sent + 1))
            clear f10 q10 hblk8 hblk7
            generalize W8.setCell ⟨bx, 10, none⟩ (.int .i64 (Z.sent + 1)) = W9 at *
            have hkA : Kept W7.heap.size (xsOf E bx by' gx gy) W7 W9 := XSt.keptA hg9
            have hll : ∀ y ∈ xsOf E bx by' gx gy, y ∈ xsOf E bx by' gx gy ∨ W7.heap.size ≤ y := fun y hy => .inl hy
            go_roundw
            case rel =>
              refine ⟨q + 1, by omega, by go_num, ?_, (hL.ext hX7).mono hkA hll, hK7.grow2 (Nat.le_refl _) hg9 (.inr HBX.out)⟩
              rw [HST.out]
              refine (hX.extW hX7).upA hg9 rfl ⟨Aq, cq, A6, c6, _, zs ++ new, ?_, (hQ.ext hX7).mono hkA hll, ?_, ?_, ?_, (hft.ext hX7).mono hkA hll⟩
              · show W9.heap[bx]? = some (.cells (sdCells Z.e (.slice Aq Z.e.queue.length cq) (.slice A6 (Z.fl ++ sentL (fateOf Z.fates Z.sent) bq now 8).length c6) (.slice Aft fz.length cft) (Z.sent + 1) gx Z.resets) 34 (0, 0))
                rw [← HF.out, ← HN6.out]
                exact hblk9
              · show _ = Z.fl ++ sentL (fateOf Z.fates Z.sent) bq now 8
                rw [← HF.out]; exact HPL.out
              · show St _ W9 (fun W => InR flCells W (.slice A6 (Z.fl ++ sentL (fateOf Z.fates Z.sent) bq now 8).length c6) (zs ++ new))
                rw [← HF.out, ← HN6.out]
                exact hflS.mono hkA hll
              · intro z hz
                rcases List.mem_append.1 hz with hz | hz
                · exact ((HBD.out z hz).ext hX7).mono hkA hll
                · exact (HNBS.out z hz).mono hkA hll
            case measure => simp [intOf]; omega
          · have hqi : ¬ (q : Int) < (out.length : Int) := by omega
            have HTA : Hid (out.take q = out) := Lib.hid (List.take_of_length_le (by omega))
            go_wp2_with fail
            go_roundw
            case rel => exact ⟨j + 1, by omega, by go_num, HC.out _ (by rw [HPS.out]; rw [HTA.out] at hX; exact hX), hK⟩
            case measure => simp [intOf]; omega
    · obtain rfl : j = 2 := by omega
      rw [if_neg (by omega), if_pos rfl] at hX
      have HLA := Lib.hid (HA.out.poll HN.out)
      have HLB := Lib.hid (HB.out.poll HN.out)
      clear hj2
      go_wp2_with fail
      go_loopw [10] (fun i wr => ∃ (j : Nat) (A B : SD) (gA gB : Value), j ≤ 2 ∧ i = .int .i64 (j : Int) ∧ XSt E w0 wr ba bb A B gA gB ∧ Hid (j = 0 → A = pollS now a ∧ B = pollS now b) ∧ Hid (j = 1 → Arrives now (pollS now a) (pollS now b) A B) ∧ Hid (j = 2 → Exch now a b A B) ∧
        Hid (A.LS (m + 10) (n + 5)) ∧ Hid (B.LS (m + 10) (n + 5)) ∧ (∀ k, gA.ownBlock = some k → w.heap.size ≤ k ∨ k ∈ xsOf [] ba bb ga gb) ∧ (∀ k, gB.ownBlock = some k → w.heap.size ≤ k ∨ k ∈ xsOf [] ba bb ga gb) ∧ Kept w.heap.size (xsOf [] ba bb ga gb) w wr) (fun i _ => 2 - (intOf i).toNat)
      case atStart => exact ⟨0, _, _, ga, gb, by omega, rfl, hX, Lib.hid fun _ => ⟨rfl, rfl⟩, Lib.hid (fun h => by omega), Lib.hid (fun h => by omega), HLA, HLB, fun k hk => .inr (by rw [mem_xs]; exact .inr (.inr (.inl hk))), fun k hk => .inr (by rw [mem_xs]; exact .inr (.inr (.inr (.inl hk)))), hK⟩
      case round =>
        clear hX hK HLA HLB
        obtain ⟨j, A, B, gA, gB, hj, rfl, hX, H0, H1, H2, HLA, HLB, hoA, hoB, hK⟩ := hrel
        obtain ⟨wo, rfl⟩ : ∃ wo : World, wo = wr := ⟨_, rfl⟩
        by_cases hj2 : j < 2
        · have hij : (j : Int) < 2 := by omega
          go_upto_if 80 with fail
          go_cut [11, 12] (fun p r wx => ∃ (bx by' : Nat) (X Y : SD) (gx gy : Value), p = .pointer (some ⟨bx, 0, none⟩) ∧ r = .pointer (some ⟨by', 0, none⟩) ∧ XSt E w0 wx bx by' X Y gx gy ∧ Hid (X.LS (m + 10) (n + 5)) ∧ Hid (Y.LS (m + 10) (n + 5)) ∧ bx ∈ xsOf [] ba bb ga gb ∧ by' ∈ xsOf [] ba bb ga gb ∧
            (∀ k, gy.ownBlock = some k → w.heap.size ≤ k ∨ k ∈ xsOf [] ba bb ga gb) ∧ Kept w.heap.size (xsOf [] ba bb ga gb) w wx ∧
            Hid (∀ W' X' Y' gy', XSt E w0 W' bx by' X' Y' gx gy' → Arrives now X Y X' Y' → (∀ k, gy'.ownBlock = some k → w.heap.size ≤ k ∨ k ∈ xsOf [] ba bb ga gb) → Kept w.heap.size (xsOf [] ba bb ga gb) w W' →
              ∃ (A B : SD) (gA gB : Value), XSt E w0 W' ba bb A B gA gB ∧ Hid (j + 1 = 0 → A = pollS now a ∧ B = pollS now b) ∧ Hid (j + 1 = 1 → Arrives now (pollS now a) (pollS now b) A B) ∧ Hid (j + 1 = 2 → Exch now a b A B) ∧
                Hid (A.LS (m + 10) (n + 5)) ∧ Hid (B.LS (m + 10) (n + 5)) ∧ (∀ k, gA.ownBlock = some k → w.heap.size ≤ k ∨ k ∈ xsOf [] ba bb ga gb) ∧ (∀ k, gB.ownBlock = some k → w.heap.size ≤ k ∨ k ∈ xsOf [] ba bb ga gb)))
          case first =>
            by_cases h0 : j = 0
            · have h1 : ((j : Int) == 1) = false := by simp; omega
              have h1' : (j == 1) = false := by simp; omega
              have HJ := Lib.hid h0
              clear h0
              go_wp2_with fail
              go_meet
              refine ⟨ba, bb, A, B, gA, gB, rfl, rfl, hX, HLA, HLB, by rw [mem_xs]; exact .inl rfl, by rw [mem_xs]; exact .inr (.inl rfl), hoB, hK, Lib.hid fun W' X' Y' gy' hX' har hoy hk' => ?_⟩
              have h0 := HJ.out
              obtain ⟨e1, e2⟩ := H0.out h0
              obtain ⟨l1, l2⟩ := HLA.out.arrives HLB.out har
              rw [e1, e2] at har
              exact ⟨X', Y', gA, gy', hX', Lib.hid (fun h => by omega), Lib.hid fun _ => har, Lib.hid (fun h => by omega), Lib.hid l1, Lib.hid l2, hoA, hoy⟩
            · have h1 : ((j : Int) == 1) = true := by simp; omega
              have h1' : (j == 1) = true := by simp; omega
              have HJ : Hid (j = 1) := Lib.hid (by omega)
              clear h0
              go_wp2_with fail
              go_meet
              refine ⟨bb, ba, B, A, gB, gA, rfl, rfl, hX.symm, HLB, HLA, by rw [mem_xs]; exact .inr (.inl rfl), by rw [mem_xs]; exact .inl rfl, hoA, hK, Lib.hid fun W' X' Y' gy' hX' har hoy hk' => ?_⟩
              have h0 := HJ.out
              obtain ⟨l1, l2⟩ := HLB.out.arrives HLA.out har
              exact ⟨Y', X', gy', gB, hX'.symm, Lib.hid (fun h => by omega), Lib.hid (fun h => by omega), Lib.hid fun _ => ⟨A, B, H1.out h0, har⟩, Lib.hid l2, Lib.hid l1, hoy, hoB⟩
          case rest =>
            clear hX hoA hoB hK H0 H1 H2 HLA HLB
            obtain ⟨bx, by', X, Y, gx, gy, rfl, rfl, hX, HLX, HLY, hbx, hby, hoy, hK, HC⟩ := hcut
            have HBX := Lib.hid hbx
            have HBY := Lib.hid hby
            clear hbx hby
            obtain ⟨Aq, cq, Af, fc, ftv, zs, hblk, hQ, hz, hfl, hbd, hft⟩ := hX.sa.ex
            obtain ⟨c8, _, _, _, _⟩ := sd_at hblk
            have hzl : zs.length = X.fl.length := by rw [← hz]; simp
            have hxf := HLX.out.few
            have hgd : ∀ z ∈ zs, z.2.b.length ≤ 1000000 := fun z hz' => by
              have : z.plain ∈ X.fl := by rw [← hz]; exact List.mem_map_of_mem hz'
              have := (HLX.out.fl _ this).1
              have e : z.plain.2 = z.2.b := rfl
              rw [e] at this
              omega
            have HZ := Lib.hid hz
            have HZL := Lib.hid hzl
            have HGD := Lib.hid hgd
            have HBD := Lib.hid hbd
            clear hz hzl hgd hbd
            go_wp2_with fail
            refine (Arrive_any _ zs now wc hfl.out (by have := HZL.out; omega) (fun z hz => (HBD.out z hz).out) HGD.out).mono ?_
            rintro en w1 ⟨yo, yr, outs, rest, rfl, ho1, hr1, hrest, hperm, hx1⟩
            obtain ⟨Ao, co, rfl, _⟩ := ho1.in_.form
            obtain ⟨Ar, cr, hv, _, _⟩ := hr1.inR
            have hfp := filter_plain zs now
            have hrl : rest.length = (X.fl.filter (fun z => decide (now < z.1))).length := by rw [← HZ.out, hfp.1, hrest]; simp
            rw [hrl] at hv
            obtain ⟨RN, hRN⟩ : ∃ RN, RN = (X.fl.filter (fun z => decide (now < z.1))).length := ⟨_, rfl⟩
            rw [← hRN] at hv
            subst hv
            have HRN := Lib.hid hRN
            have HPO : Hid (outs.Perm ((X.fl.filter (fun z => !decide (now < z.1))).map (·.2))) := Lib.hid (by rw [← HZ.out, hfp.2]; exact hperm)
            have HRS : Hid (rest.map FZ.plain = X.fl.filter (fun z => decide (now < z.1))) := Lib.hid (by rw [← HZ.out, hfp.1, hrest])
            have HRM : Hid (∀ z ∈ rest, z ∈ zs) := Lib.hid (fun z hz => by rw [hrest] at hz; exact (List.mem_filter.1 hz).1)
            have hol : outs.length ≤ 2000000 := by have := hperm.length_eq; rw [this]; have h2 := List.length_filter_le (fun (z : FZ) => !decide (now < z.1)) zs; have := HZL.out; simp; omega
            have HGO : Hid (∀ b ∈ outs, Good b) := Lib.hid (due_good HLX.out HPO.out)
            clear hRN hfp hrl hrest hperm
            have hblk1 := hx1.heap hblk
            have f8 := blk_free hblk1 8
            have q8 := blk_at hblk1 8 _ rfl
            have hltb := heap_lt hblk1
            go_upto_region 21 with fail
            have hblk2 := blk_set hblk1 8 (.slice Ar RN cr)
            have hg2 := gset w1 ⟨bx, 8, none⟩ (.slice Ar RN cr)
            clear f8 q8 hltb c8
            generalize w1.setCell ⟨bx, 8, none⟩ (.slice Ar RN cr) = w2 at *
            have hkA : Kept w1.heap.size (xsOf E bx by' gx gy) w1 w2 := XSt.keptA hg2
            have hll : ∀ y ∈ xsOf E bx by' gx gy, y ∈ xsOf E bx by' gx gy ∨ w1.heap.size ≤ y := fun y hy => .inl hy
            obtain ⟨X', hX'⟩ : ∃ X', X' = (⟨X.e, X.fl.filter (fun z => decide (now < z.1)), X.fates, X.sent, X.got, X.resets⟩ : SD) := ⟨_, rfl⟩
            have hX2 : XSt E w0 w2 bx by' X' Y gx gy := by
              rw [hX']
              refine (hX.extW hx1).upA hg2 rfl ⟨Aq, cq, Ar, cr, ftv, rest, ?_, (hQ.ext hx1).mono hkA hll, HRS.out, ?_, fun z hz => ((HBD.out z (HRM.out z hz)).ext hx1).mono hkA hll, (hft.ext hx1).mono hkA hll⟩
              · simp only
                rw [← HRN.out]
                exact hblk2
              · simp only
                rw [← HRN.out]
                exact (((Fr.ownR hr1).st hX.lt).imp fun _ h => h.inR).mono hkA hll
            have hL2 : St (xsOf E bx by' gx gy) w2 (fun W => QIn W (.slice Ao outs.length co) outs) := (((Fr.qOwn ho1).st hX.lt).imp fun _ h => h.in_).mono hkA hll
            have hK2 := (hK.ext2 (Nat.le_refl _) hx1).grow2 (Nat.le_refl _) hg2 (.inr HBX.out)
            have HXE := Lib.hid hX'
            clear hX hblk hblk1 hblk2 hQ hfl hft hK hg2 ho1 hr1 hx1 hkA hll hX'
            go_wp2_with fail
            go_loopw [14] (fun i wr => ∃ (q : Nat) (Y1 : SD) (g1 : Value), q ≤ outs.length ∧ i = .int .i64 (q : Int) ∧ Hid (RecvAll Y (outs.take q) Y1) ∧ XSt E w0 wr bx by' X' Y1 gx g1 ∧ St (xsOf E bx by' gx g1) wr (fun W => QIn W (.slice Ao outs.length co) outs) ∧ (∀ k, g1.ownBlock = some k → w.heap.size ≤ k ∨ k ∈ xsOf [] ba bb ga gb) ∧ Kept w.heap.size (xsOf [] ba bb ga gb) w wr) (fun i _ => outs.length - (intOf i).toNat)
            case atStart => exact ⟨0, Y, gy, by omega, rfl, Lib.hid (RecvAll.nil Y), hX2, hL2, hoy, hK2⟩
            case round =>
              clear hX2 hL2 hK2 hoy
              obtain ⟨q, Y1, g1, hq, rfl, HR, hX, hL, hoy, hK⟩ := hrel
              obtain ⟨wz, rfl⟩ : ∃ wz : World, wz = wr := ⟨_, rfl⟩
              by_cases hql : q < outs.length
              · have hqi : (q : Int) < (outs.length : Int) := by omega
                have HLY1 : Hid (Y1.LS (m + 10) (n + 5)) := Lib.hid (HLY.out.recvAll HR.out (fun b hb => HGO.out b (List.mem_of_mem_take hb)))
                have HT3 := Lib.hid (List.take_succ_eq_append_getElem hql)
                have HGB := Lib.hid (HGO.out _ (List.getElem_mem hql))
                obtain ⟨bo, oo, xv, rfl, hcx, hix⟩ := hL.out.at_ hql
                generalize outs[q] = bq at *
                obtain ⟨Ax, cx, rfl, _, _⟩ := id hix
                have hXs := hX.symm
                obtain ⟨Aq, cq, Af, fc, ftv, zs1, hblk, hQ, hz, hfl, hbd, hft⟩ := hXs.sa.ex
                have hltb := heap_lt hblk
                have HBD1 := Lib.hid hbd
                have HZ1 := Lib.hid hz
                have hbql : bq.length ≤ 10000 := HGB.out.1
                clear hbd hz
                go_upto_region 26 with fail
                refine wp_region_X #[true, true, true, true, true, true, true, true, true, true, true, true, true, true, false, false, false, false, false] 14 5 (by kernel_rfl) rfl ?_
                refine wpX_vt 0 (.pointer (some ⟨by', 0, none⟩)) rfl rfl (by kernel_rfl) (by kernel_rfl) (by kernel_rfl) (fun _ _ _ _ h => h) (by kernel_rfl) rfl (by rfl) (fun W' hW => by
                  skip
                  go_simp) ?_
                simp only [List.setIfInBounds_toArray, List.set_cons_zero, List.set_cons_succ]
                refine wpX_vt 1 (.pointer (some ⟨by', 0, none⟩)) rfl rfl (by kernel_rfl) (by kernel_rfl) (by kernel_rfl) (fun _ _ _ _ h => h) (by kernel_rfl) rfl (by rfl) (fun W' hW => by
                  skip
                  go_simp) ?_
                simp only [List.setIfInBounds_toArray, List.set_cons_zero, List.set_cons_succ]
                refine wpX_vt 2 (.pointer (some ⟨by', 0, none⟩)) rfl rfl (by kernel_rfl) (by kernel_rfl) (by kernel_rfl) (fun _ _ _ _ h => h) (by kernel_rfl) rfl (by rfl) (fun W' hW => by
                  skip
                  go_simp) ?_
                simp only [List.setIfInBounds_toArray, List.set_cons_zero, List.set_cons_succ]
                refine wpX_vt 3 (.pointer (some ⟨by', 0, none⟩)) rfl rfl (by kernel_rfl) (by kernel_rfl) (by kernel_rfl) (fun _ _ _ _ h => h) (by kernel_rfl) rfl (by rfl) (fun W' hW => by
                  skip
                  go_simp) ?_
                simp only [List.setIfInBounds_toArray, List.set_cons_zero, List.set_cons_succ]
                refine wpX_vt 4 (.agg #[.int .i64 Y1.e.epoch, .int .i64 Y1.e.peer, .int .i64 Y1.e.acked, .int .i64 Y1.e.sent, .int .i64 Y1.e.got, .int .i64 Y1.e.timer, .slice Aq Y1.e.queue.length cq, .bool Y1.e.owe]) rfl rfl (by kernel_rfl) (by kernel_rfl) (by kernel_rfl) (fun _ _ _ _ h => h) (by kernel_rfl) rfl (by rfl) (fun W' hW => exec_load 26 (.tmp 105) rfl _ _ rfl (sd_load ((((Ext.refl wz).drew).trans hW).heap hblk))) ?_
                simp only [List.setIfInBounds_toArray, List.set_cons_zero, List.set_cons_succ]
                refine wpX_vt 5 (.slice (some ⟨bo, oo, none⟩) outs.length co) rfl rfl (by kernel_rfl) (by kernel_rfl) (by kernel_rfl) (fun _ _ _ _ h => h) (by kernel_rfl) rfl (by rfl) (fun W' hW => by
                  skip
                  go_simp) ?_
                simp only [List.setIfInBounds_toArray, List.set_cons_zero, List.set_cons_succ]
                refine wpX_vt 6 (.int .i64 (q : Int)) rfl rfl (by kernel_rfl) (by kernel_rfl) (by kernel_rfl) (fun _ _ _ _ h => h) (by kernel_rfl) rfl (by rfl) (fun W' hW => by
                  skip
                  go_simp) ?_
                simp only [List.setIfInBounds_toArray, List.set_cons_zero, List.set_cons_succ]
                refine wpX_vt 7 (.pointer (some ⟨bo, oo + q, none⟩)) rfl rfl (by kernel_rfl) (by kernel_rfl) (by kernel_rfl) (fun _ _ _ _ h => h) (by kernel_rfl) rfl (by rfl) (fun W' hW => by
                  skip
                  go_simp) ?_
                simp only [List.setIfInBounds_toArray, List.set_cons_zero, List.set_cons_succ]
                refine wpX_vt 8 (.slice Ax bq.length cx) rfl rfl (by kernel_rfl) (by kernel_rfl) (by kernel_rfl) (fun _ _ _ _ h => h) (by kernel_rfl) rfl (by rfl) (fun W' hW => by
                  have z := (((Ext.refl wz).drew).trans hW).cell hcx
                  go_simp) ?_
                simp only [List.setIfInBounds_toArray, List.set_cons_zero, List.set_cons_succ]
                refine wpX_c 9 14 #[.agg #[.int .i64 Y1.e.epoch, .int .i64 Y1.e.peer, .int .i64 Y1.e.acked, .int .i64 Y1.e.sent, .int .i64 Y1.e.got, .int .i64 Y1.e.timer, .slice Aq Y1.e.queue.length cq, .bool Y1.e.owe], .slice Ax bq.length cx] rfl rfl (by kernel_rfl) rfl rfl (fun W => by go_simp) ?_
                intro W1 hW1
                have hX1 := ((Ext.refl wz).drew).trans hW1
                refine (Receive_own _ _ Y1.e bq W1 ⟨_, rfl, (hQ.ext hX1).out⟩ (hix.ext hX1) HLY1.out.e.tame HLY1.out.e.cons (by omega)).mono ?_
                rintro en w5 ⟨y5, ym, e5, ms, rs, p, er, rfl, hD, heq, hq5, hm5, he5⟩
                refine ⟨_, rfl, he5, ?_⟩
                obtain ⟨A5, c5, rfl, _⟩ := (hq5 w5 (Nat.le_refl _) (fun _ _ _ => rfl)).form
                obtain ⟨Am, cm, rfl, _⟩ := hm5.in_.form
                simp only [List.setIfInBounds_toArray, List.set_cons_zero, List.set_cons_succ]
                refine wpX_vt 10 (.tuple #[.agg #[.int .i64 e5.epoch, .int .i64 e5.peer, .int .i64 e5.acked, .int .i64 e5.sent, .int .i64 e5.got, .int .i64 e5.timer, .slice A5 e5.queue.length c5, .bool e5.owe], .slice Am ms.length cm, .bool rs]) rfl rfl (by kernel_rfl) (by kernel_rfl) (by kernel_rfl) (fun _ _ _ _ h => h) (by kernel_rfl) rfl (by rfl) (fun W' hW => by
                  skip
                  go_simp) ?_
                simp only [List.setIfInBounds_toArray, List.set_cons_zero, List.set_cons_succ]
                refine wpX_vt 11 (.agg #[.int .i64 e5.epoch, .int .i64 e5.peer, .int .i64 e5.acked, .int .i64 e5.sent, .int .i64 e5.got, .int .i64 e5.timer, .slice A5 e5.queue.length c5, .bool e5.owe]) rfl rfl (by kernel_rfl) (by kernel_rfl) (by kernel_rfl) (fun _ _ _ _ h => h) (by kernel_rfl) rfl (by rfl) (fun W' hW => by
                  skip
                  go_simp) ?_
                simp only [List.setIfInBounds_toArray, List.set_cons_zero, List.set_cons_succ]
                refine wpX_l 12 (.slice Am ms.length cm) rfl rfl (by kernel_rfl) (by kernel_rfl) (by kernel_rfl) (fun _ _ _ _ h => h) (LateOK_any rfl (by kernel_rfl) (fun _ _ _ h => h)) rfl (by rfl) (fun W' => by go_simp) ?_
                simp only [List.setIfInBounds_toArray, List.set_cons_zero, List.set_cons_succ]
                refine wpX_l 13 (.bool rs) rfl rfl (by kernel_rfl) (by kernel_rfl) (by kernel_rfl) (fun _ _ _ _ h => h) (LateOK_any rfl (by kernel_rfl) (fun _ _ _ h => h)) rfl (by rfl) (fun W' => by go_simp) ?_
                simp only [List.setIfInBounds_toArray, List.set_cons_zero, List.set_cons_succ]
                refine wpX_end rfl fun W7 hW7 => tail_seq 14 rfl (by kernel_rfl) ?_
                simp only [List.drop_succ_cons, List.drop_zero]
                have hX5 := hX1.trans he5
                have hX7 := hX5.trans hW7
                obtain ⟨w8, hst, hblk8, hg8⟩ := sd_store (hX7.heap hblk) e5 A5 e5.queue.length c5
                go_wp2_with first | refine wpList_store_run rfl 26 (.tmp 116) (.tmp 112) rfl _ _ _ rfl rfl hst ?_
                refine NoPanic.normal ?_
                have hlt1 : ∀ x ∈ xsOf E by' bx g1 gx, x < W1.heap.size := fun x hx => Nat.lt_of_lt_of_le (hXs.lt x hx) hX1.size
                have hlt2 : ∀ x ∈ xsOf E bx by' gx g1, x < W1.heap.size := fun x hx => Nat.lt_of_lt_of_le (hX.lt x hx) hX1.size
                have hkA : Kept W7.heap.size (xsOf E by' bx g1 gx) W7 w8 := XSt.keptA hg8
                have hkB : Kept W7.heap.size (xsOf E bx by' gx g1) W7 w8 := Kept.of_grown hg8 (Nat.le_refl _) (fun k e => by cases e; exact .inr (by rw [mem_xs]; exact .inr (.inl rfl)))
                have hll : ∀ y ∈ xsOf E by' bx g1 gx, y ∈ xsOf E by' bx g1 gx ∨ W7.heap.size ≤ y := fun y hy => .inl hy
                have hlm : ∀ y ∈ xsOf E bx by' gx g1, y ∈ xsOf E bx by' gx g1 ∨ W7.heap.size ≤ y := fun y hy => .inl hy
                have hX8 : XSt E w0 w8 by' bx (Y1.setE e5) X' g1 gx := (hXs.extW hX7).upA hg8 rfl ⟨A5, c5, Af, fc, ftv, zs1, hblk8, (((show Fr W1 w5 (fun W => QIn W (.slice A5 e5.queue.length c5) e5.queue) from hq5).st hlt1).ext hW7).mono hkA hll, HZ1.out, (hfl.ext hX7).mono hkA hll, fun z hz => ((HBD1.out z hz).ext hX7).mono hkA hll, (hft.ext hX7).mono hkA hll⟩
                have hM8 : St (xsOf E bx by' gx g1) w8 (fun W => QIn W (.slice Am ms.length cm) ms) := ((((Fr.qOwn hm5).st hlt2).imp fun _ h => h.in_).ext hW7).mono hkB hlm
                have hL8 := (hL.ext hX7).mono hkB hlm
                have hK8 := (hK.ext2 (Nat.le_refl _) hX7).grow2 (Nat.le_refl _) hg8 (.inr HBY.out)
                have HEQ := Lib.hid heq
                have HD := Lib.hid hD
                clear hX hXs hL hK hblk hQ hfl hft hst hblk8 hg8 hkA hkB hll hlm hlt1 hlt2 hX1 hX5 hX7 hW1 hW7 he5 hq5 hm5 hcx hix heq hD hltb
                obtain ⟨Y2, hY2⟩ : ∃ Y2, Y2 = (⟨e5, Y1.fl, Y1.fates, Y1.sent, Y1.got, if rs then Y1.resets + 1 else Y1.resets⟩ : SD) := ⟨_, rfl⟩
                have HY2 := Lib.hid hY2
                have HSTEP : Hid (RecvStep Y1 bq (Y2.more ms.flatten)) := Lib.hid ⟨p, er, HD.out, by rw [hY2, SD.more, ← HEQ.out]⟩
                have HLY3 : Hid ((Y2.more ms.flatten).LS (m + 10) (n + 5)) := Lib.hid (HLY1.out.recv HGB.out HSTEP.out)
                have hgl : Y2.got.length + ms.flatten.length ≤ 300000 := by
                  have h1 := HLY3.out.got
                  have h2 := HLY3.out.e.peer
                  have h3 := HLY3.out.e.got
                  have h4 : (Y2.more ms.flatten).got.length = Y2.got.length + ms.flatten.length := by simp [SD.more]
                  rw [h4] at h1
                  omega
                clear hY2
                go_upto_if 117 with fail
                go_cut [117] (fun _ wx => XSt E w0 wx by' bx Y2 X' g1 gx ∧ St (xsOf E bx by' gx g1) wx (fun W => QIn W (.slice (some ⟨bo, oo, none⟩) outs.length co) outs) ∧ St (xsOf E bx by' gx g1) wx (fun W => QIn W (.slice Am ms.length cm) ms) ∧ Kept w.heap.size (xsOf [] ba bb ga gb) w wx)
                case first =>
                  cases rs with
                  | false =>
                    go_wp2_with fail
                    go_meet
                    exact ⟨by rw [HY2.out]; exact hX8, hL8, hM8, hK8⟩
                  | true =>
                    obtain ⟨Aq, cq, Af, fc, ftv, zs1, hblk, hQ, hz, hfl, hbd, hft⟩ := hX8.sa.ex
                    obtain ⟨_, _, _, _, c12⟩ := sd_at hblk
                    have f12 := blk_free hblk 12
                    have hltb := heap_lt hblk
                    have hres : 0 ≤ Y1.resets ∧ Y1.resets ≤ 20 := by have h1 := HLY1.out.resets; have h2 := HLY1.out.e.peer; omega
                    have c12' : w8.cell? ⟨by', 12, none⟩ = some (.int .i64 Y1.resets) := c12
                    have hws : IntKind.i64.wrap (Y1.resets + 1) = Y1.resets + 1 := by rw [IntKind.wrap_i64]; omega
                    have HBD2 := Lib.hid hbd
                    have HZ2 := Lib.hid hz
                    clear c12 hbd hz
                    go_wp2_with fail
                    go_meet
                    have hg9 := gset w8 ⟨by', 12, none⟩ (.int .i64 (Y1.resets + 1))
                    have hkA : Kept w8.heap.size (xsOf E by' bx g1 gx) w8 (w8.setCell ⟨by', 12, none⟩ (.int .i64 (Y1.resets + 1))) := XSt.keptA hg9
                    have hkB : Kept w8.heap.size (xsOf E bx by' gx g1) w8 (w8.setCell ⟨by', 12, none⟩ (.int .i64 (Y1.resets + 1))) := Kept.of_grown hg9 (Nat.le_refl _) (fun k e => by cases e; exact .inr (by rw [mem_xs]; exact .inr (.inl rfl)))
                    refine ⟨?_, hL8.mono hkB (fun y hy => .inl hy), hM8.mono hkB (fun y hy => .inl hy), hK8.grow2 (Nat.le_refl _) hg9 (.inr HBY.out)⟩
                    rw [HY2.out]
                    exact hX8.upA hg9 rfl ⟨Aq, cq, Af, fc, ftv, zs1, blk_set hblk 12 (.int .i64 (Y1.resets + 1)), hQ.mono hkA (fun y hy => .inl hy), HZ2.out, hfl.mono hkA (fun y hy => .inl hy), fun z hz => (HBD2.out z hz).mono hkA (fun y hy => .inl hy), hft.mono hkA (fun y hy => .inl hy)⟩
                case rest =>
                  clear hX8 hL8 hM8 hK8
                  obtain ⟨hX9, hL9, hM9, hK9⟩ := hcut
                  have hmsl : ms.length ≤ 1 := by
                    have := recvF_ms Y1.e p er
                    rw [← HEQ.out] at this
                    exact this
                  go_wp2_with fail
                  go_loopw [17] (fun i wr => ∃ (r : Nat) (g2 : Value), r ≤ ms.length ∧ i = .int .i64 (r : Int) ∧ XSt E w0 wr by' bx (Y2.more (ms.take r).flatten) X' g2 gx ∧ St (xsOf E bx by' gx g2) wr (fun W => QIn W (.slice (some ⟨bo, oo, none⟩) outs.length co) outs) ∧ St (xsOf E bx by' gx g2) wr (fun W => QIn W (.slice Am ms.length cm) ms) ∧ (∀ k, g2.ownBlock = some k → w.heap.size ≤ k ∨ k ∈ xsOf [] ba bb ga gb) ∧ Kept w.heap.size (xsOf [] ba bb ga gb) w wr) (fun i _ => ms.length - (intOf i).toNat)
                  case atStart => exact ⟨0, g1, by omega, rfl, by simpa [SD.more] using hX9, hL9, hM9, hoy, hK9⟩
                  case round =>
                    clear hX9 hL9 hM9 hoy hK9
                    obtain ⟨r, g2, hr, rfl, hX, hL, hM, hoy, hK⟩ := hrel
                    obtain ⟨wv, rfl⟩ : ∃ wv : World, wv = wr := ⟨_, rfl⟩
                    by_cases hrl : r < ms.length
                    · have hri : (r : Int) < (ms.length : Int) := by omega
                      have HT4 := Lib.hid (List.take_succ_eq_append_getElem hrl)
                      have hfl4 := flat_take_len ms (r + 1)
                      rw [HT4.out, List.flatten_append, List.length_append, show [ms[r]].flatten = ms[r] by simp] at hfl4
                      obtain ⟨bm, om, xm, rfl, hcm, him⟩ := hM.out.at_ hrl
                      generalize ms[r] = bs at *
                      obtain ⟨As, cs, rfl, _, _⟩ := id him
                      obtain ⟨Aq, cq, Af, fc, ftv, zs1, hblk, hQ, hz, hfl, hbd, hft⟩ := hX.sa.ex
                      obtain ⟨_, _, _, c11, _⟩ := sd_at hblk
                      obtain ⟨G, gc, hv, _, _⟩ := hX.oa.inV
                      obtain ⟨gn, hgn⟩ : ∃ gn, gn = (Y2.more (ms.take r).flatten).got.length := ⟨_, rfl⟩
                      rw [← hgn] at hv
                      subst hv
                      have hltb := heap_lt hblk
                      have hsum : (Y2.more (ms.take r).flatten).got.length + bs.length ≤ 300000 := by
                        have h4 : (Y2.more (ms.take r).flatten).got.length = Y2.got.length + (ms.take r).flatten.length := by simp [SD.more]
                        rw [h4]
                        omega
                      have HSUM := Lib.hid hsum
                      clear hsum hgn hfl4 hQ hz hfl hbd hft
                      go_upto_region 32 with fail
                      refine wp_region_X #[true, true, true, true, true, true, true, true, true, false, false, false, false] 9 4 (by kernel_rfl) rfl ?_
                      refine wpX_l 0 (.pointer (some ⟨by', 0, none⟩)) rfl rfl (by kernel_rfl) (by kernel_rfl) (by kernel_rfl) (fun _ _ _ _ h => h) (LateOK_any rfl (by kernel_rfl) (fun _ _ _ h => h)) rfl (by rfl) (fun W' => by go_simp) ?_
                      simp only [List.setIfInBounds_toArray, List.set_cons_zero, List.set_cons_succ]
                      refine wpX_vt 1 (.pointer (some ⟨by', 0, none⟩)) rfl rfl (by kernel_rfl) (by kernel_rfl) (by kernel_rfl) (fun _ _ _ _ h => h) (by kernel_rfl) rfl (by rfl) (fun W' hW => by
                        skip
                        go_simp) ?_
                      simp only [List.setIfInBounds_toArray, List.set_cons_zero, List.set_cons_succ]
                      refine wpX_vt 2 (.pointer (some ⟨by', 0, none⟩)) rfl rfl (by kernel_rfl) (by kernel_rfl) (by kernel_rfl) (fun _ _ _ _ h => h) (by kernel_rfl) rfl (by rfl) (fun W' hW => by
                        skip
                        go_simp) ?_
                      simp only [List.setIfInBounds_toArray, List.set_cons_zero, List.set_cons_succ]
                      refine wpX_vt 3 (.pointer (some ⟨by', 11, none⟩)) rfl rfl (by kernel_rfl) (by kernel_rfl) (by kernel_rfl) (fun _ _ _ _ h => h) (by kernel_rfl) rfl (by rfl) (fun W' hW => by
                        skip
                        go_simp) ?_
                      simp only [List.setIfInBounds_toArray, List.set_cons_zero, List.set_cons_succ]
                      refine wpX_vt 4 (.slice G gn gc) rfl rfl (by kernel_rfl) (by kernel_rfl) (by kernel_rfl) (fun _ _ _ _ h => h) (by kernel_rfl) rfl (by rfl) (fun W' hW => by
                        have z := (((Ext.refl wv).drew).trans hW).cell c11
                        go_simp) ?_
                      simp only [List.setIfInBounds_toArray, List.set_cons_zero, List.set_cons_succ]
                      refine wpX_vt 5 (.slice (some ⟨bm, om, none⟩) ms.length cm) rfl rfl (by kernel_rfl) (by kernel_rfl) (by kernel_rfl) (fun _ _ _ _ h => h) (by kernel_rfl) rfl (by rfl) (fun W' hW => by
                        skip
                        go_simp) ?_
                      simp only [List.setIfInBounds_toArray, List.set_cons_zero, List.set_cons_succ]
                      refine wpX_vt 6 (.int .i64 (r : Int)) rfl rfl (by kernel_rfl) (by kernel_rfl) (by kernel_rfl) (fun _ _ _ _ h => h) (by kernel_rfl) rfl (by rfl) (fun W' hW => by
                        skip
                        go_simp) ?_
                      simp only [List.setIfInBounds_toArray, List.set_cons_zero, List.set_cons_succ]
                      refine wpX_vt 7 (.pointer (some ⟨bm, om + r, none⟩)) rfl rfl (by kernel_rfl) (by kernel_rfl) (by kernel_rfl) (fun _ _ _ _ h => h) (by kernel_rfl) rfl (by rfl) (fun W' hW => by
                        skip
                        go_simp) ?_
                      simp only [List.setIfInBounds_toArray, List.set_cons_zero, List.set_cons_succ]
                      refine wpX_vt 8 (.slice As bs.length cs) rfl rfl (by kernel_rfl) (by kernel_rfl) (by kernel_rfl) (fun _ _ _ _ h => h) (by kernel_rfl) rfl (by rfl) (fun W' hW => by
                        have z := (((Ext.refl wv).drew).trans hW).cell hcm
                        go_simp) ?_
                      simp only [List.setIfInBounds_toArray, List.set_cons_zero, List.set_cons_succ]
                      refine wpX_end rfl fun W7 hW7 => tail_seq 9 rfl (by kernel_rfl) ?_
                      simp only [List.drop_succ_cons, List.drop_zero]
                      have hX7 := ((Ext.refl wv).drew).trans hW7
                      have hXX := hX.extW hX7
                      have hL7 := hL.ext hX7
                      have hM7 := hM.ext hX7
                      have hK7 := hK.ext2 (Nat.le_refl _) hX7
                      have him7 := him.ext hX7
                      have hblk7 := hX7.heap hblk
                      clear hX hL hM hK him hblk hX7 hW7 hcm c11 hltb
                      go_wp2_with (at_builtin; go_must (refine wpList_appendV elem_u8 (fun _ => rfl) rfl (.tmp 135) (.tmp 139) rfl w0.heap.size _ _ rfl hXX.oa _ bs rfl him7 (by have := HSUM.out; omega) (by omega) hXX.ext.size (Hold.out ?_)))
                      refine Hold.mk fun v9 w9 ho9 hg9 => ?_
                      have hblk9 := blk_grown hblk7 hg9.grown (fun e => hXX.sa.ne_got hXX.oa e.symm)
                      have hXA := hXX.append ho9 hg9
                      have hLA := St.append hXX hg9 hL7
                      have hMA := St.append hXX hg9 hM7
                      have hK9 : Kept w.heap.size (xsOf [] ba bb ga gb) w w9 := hK7.trans (Kept.of_grown hg9.grown hK7.size (fun k e => hoy k e))
                      have hKA := hK9.grow2 (Nat.le_refl _) (gset w9 ⟨by', 11, none⟩ v9) (.inr HBY.out)
                      have hov : ∀ k, v9.ownBlock = some k → w.heap.size ≤ k ∨ k ∈ xsOf [] ba bb ga gb := fun k hk => by
                        rcases hg9.lies with e2 | ⟨g, e2, hg2⟩
                        · exact hoy k (e2 ▸ hk)
                        · rw [e2] at hk; injection hk with hk; have := hK7.size; exact .inl (by omega)
                      obtain ⟨V9, d9, hv9, _, _⟩ := ho9.inV
                      obtain ⟨n9, hn9⟩ : ∃ n9, n9 = ((Y2.more (ms.take r).flatten).got ++ bs).length := ⟨_, rfl⟩
                      rw [← hn9] at hv9
                      subst hv9
                      have f11 := blk_free hblk9 11
                      have q11 := blk_at hblk9 11 _ rfl
                      have hlt9 := heap_lt hblk9
                      clear hn9 ho9 hg9 hXX hL7 hM7 hK7 hK9 hoy him7 hblk7
                      go_wp2_with fail
                      refine NoPanic.normal ?_
                      go_wp2_with fail
                      go_roundw
                      case rel =>
                        refine ⟨r + 1, _, by omega, by go_num, ?_, hLA, hMA, hov, hKA⟩
                        have e1 : (Y2.more (ms.take (r + 1)).flatten) = (Y2.more (ms.take r).flatten).more bs := by rw [HT4.out]; simp [SD.more, List.append_assoc]
                        rw [e1]
                        exact hXA
                      case measure => simp [intOf]; omega
                    · have hri : ¬ (r : Int) < (ms.length : Int) := by omega
                      have HTM : Hid (ms.take r = ms) := Lib.hid (List.take_of_length_le (by omega))
                      go_wp2_with fail
                      go_roundw
                      case rel =>
                        rw [HTM.out] at hX
                        exact ⟨q + 1, _, g2, by omega, by go_num, Lib.hid (by rw [HT3.out]; exact RecvAll.snoc HR.out HSTEP.out), hX.symm, hL, hoy, hK⟩
                      case measure => simp [intOf]; omega
              · have hqi : ¬ (q : Int) < (outs.length : Int) := by omega
                have HTO : Hid (outs.take q = outs) := Lib.hid (List.take_of_length_le (by omega))
                go_wp2_with fail
                go_roundw
                case rel =>
                  have hR := HR.out
                  rw [HTO.out] at hR
                  obtain ⟨A', B', gA', gB', r1, r2, r3, r4, r5, r6, r7, r8⟩ := HC.out _ X' Y1 g1 hX ⟨outs, HPO.out, HXE.out, hR⟩ hoy hK
                  (repeat apply Exists.intro)
                  refine ⟨?_, rfl⟩
                  exact ⟨j + 1, A', B', gA', gB', by omega, by go_num, r1, r2, r3, r4, r5, r6, r7, r8, hK⟩
                case measure => simp [intOf]; omega
        · obtain rfl : j = 2 := by omega
          have HX2 := Lib.hid (H2.out rfl)
          clear H0 H1 H2
          go_wp2_with fail
          refine bodyPost_ret (by simp [results, Try.results12, go_sem]; rfl) rfl ?_
          exact ⟨_, A, B, gA, gB, rfl, HX2.out, hX, hK, hoA, hoB⟩
end Go.Proofs.Ytnobepobalpccaa
