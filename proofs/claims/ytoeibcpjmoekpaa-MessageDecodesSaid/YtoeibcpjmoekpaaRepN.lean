/- Replies: plain laws of the reference's decoding; how it reads what was printed. -/
import Derived.Test.YtoeibcpjmoekpaaRepM
namespace Go.Proofs.Ytoeibcpjmoekpaa
open Go.RowKit
set_option linter.unusedVariables false

theorem Dec1.step' {b : List UInt8} {err : Int} {words : List Int} {ts : List Thr} {k : Nat} {st st' : Option Int} {t : Thr} (h : Dec1 b err words ts (k + 1) st) (h1 : ThrIs b st t st') : Dec1 b err words (ts ++ [t]) k st' := by
  rcases h1 with ⟨l, st1, h1, h2, h3, _⟩ | ⟨h1, rfl⟩
  · rw [h3]; exact h.step h1 h2
  · intro r hr
    obtain ⟨_, _, j, _, e4, rfl⟩ := h r hr
    have := rd3 hr (show j < r.threads.length by omega)
    have e : (at_ (pR3 r j)).bind (exR b 19) = exR b 19 ((pR3 r j).length : Int) := rfl
    rw [e, this] at h1
    cases h1
/-- what has been read is what would be written -/
def BackSt (b pre : List UInt8) (st : Option Int) : Prop := ∀ p, st = some p → 0 ≤ p ∧ p ≤ b.length ∧ b.take p.toNat = pre
theorem take_more {b x : List UInt8} {p q : Int} (h0 : 0 ≤ p) (h1 : p ≤ q) (h2 : q ≤ b.length) (h : b.drop p.toNat = x ++ b.drop q.toNat) : b.take q.toNat = b.take p.toNat ++ x := by
  have hl := congrArg List.length h
  simp only [List.length_drop, List.length_append] at hl
  have hp : (b.take p.toNat).length = p.toNat := by rw [List.length_take]; omega
  have hx : (b.take p.toNat ++ x).length = q.toNat := by rw [List.length_append, hp]; omega
  have e3 : (b.take p.toNat ++ x ++ b.drop q.toNat).take q.toNat = b.take p.toNat ++ x := by rw [List.take_append_of_le_length (by omega), List.take_of_length_le (by omega)]
  rw [List.append_assoc, ← h, List.take_append_drop] at e3
  exact e3
theorem BackSt.start (b : List UInt8) : BackSt b [] (some 0) := fun p e => by cases e; exact ⟨by omega, by omega, by simp⟩
theorem BackSt.none (b pre : List UInt8) : BackSt b pre none := fun p e => by cases e
theorem BackSt.num {b pre : List UInt8} {st : Option Int} (h : BackSt b pre st) : BackSt b (pre ++ leb (zig (numR b st).1)) (numR b st).2 := by
  intro q hq
  rcases st with _ | p
  · cases hq
  · obtain ⟨h0, h1, h2⟩ := h p rfl
    simp only [numR] at hq ⊢
    split at hq
    · rename_i he
      simp only [Option.some.injEq] at hq
      subst hq
      obtain ⟨_, i2, i3, i4⟩ := intR_inv he
      rw [if_pos he]
      exact ⟨by omega, i3, by rw [take_more h0 (by omega) i3 i4, h2]⟩
    · cases hq
theorem BackSt.cnt {b pre : List UInt8} {st : Option Int} (h : BackSt b pre st) : BackSt b (pre ++ uintB ((uR b st).1.toNat : Nat)) (uR b st).2 := by
  intro q hq
  rcases st with _ | p
  · cases hq
  · obtain ⟨h0, h1, h2⟩ := h p rfl
    simp only [uR] at hq ⊢
    split at hq
    · rename_i he
      simp only [Option.some.injEq] at hq
      subst hq
      obtain ⟨_, i2, i3⟩ := uintR_inv he
      obtain ⟨_, j2, j3⟩ := uintR_next he
      rw [if_pos he, uintB_nat]
      exact ⟨by omega, j3, by rw [take_more h0 (by omega) j3 i3, h2]⟩
    · cases hq
theorem BackSt.list {b pre : List UInt8} {st st' : Option Int} {l : List Int} {most : Int} (h : BackSt b pre st) (h1 : ListIs (st.bind (listR b most)) l st') : BackSt b (pre ++ listB l) st' := by
  rcases h1 with ⟨q, h1, rfl⟩ | ⟨_, rfl⟩
  · intro q' e
    cases e
    rcases st with _ | p
    · cases h1
    · obtain ⟨h0, _, h2⟩ := h p rfl
      simp only [Option.bind_some] at h1
      obtain ⟨i0, i1, i2, _, _, i5⟩ := listR_inv h1
      exact ⟨by omega, i2, by rw [take_more h0 i1 i2 i5, h2]⟩
  · exact BackSt.none _ _
theorem exR_listR {b : List UInt8} {n p q : Int} {l : List Int} (h : exR b n p = some (l, q)) : listR b n p = some (l, q) := by
  unfold exR at h
  rcases hr : listR b n p with _ | r
  · rw [hr] at h; cases h
  · rw [hr] at h
    simp only [Option.bind_some] at h
    split at h
    · exact h
    · cases h
theorem ListIs.of_ex {b : List UInt8} {n : Int} {st st' : Option Int} {l : List Int} (h : ListIs (st.bind (exR b n)) l st') : (∃ q, st.bind (listR b n) = some (l, q) ∧ st' = some q) ∨ st' = none := by
  rcases h with ⟨q, h, rfl⟩ | ⟨_, rfl⟩
  · rcases st with _ | p
    · cases h
    · exact .inl ⟨q, exR_listR h, rfl⟩
  · exact .inr rfl
theorem BackSt.thr {b pre : List UInt8} {st st' : Option Int} {t : Thr} (h : BackSt b pre st) (h1 : ThrIs b st t st') : BackSt b (pre ++ thrB t) st' := by
  rcases h1 with ⟨l, st1, h1, h2, h3, h4⟩ | ⟨_, rfl⟩
  · rcases h1.of_ex with ⟨q, h5, rfl⟩ | rfl
    · have k1 := h.list (.inl ⟨q, h5, rfl⟩)
      have k2 := k1.list h2
      have e : t.nums = l := by rw [h3]; exact thrOf_back h4
      rw [thrB, e, ← List.append_assoc]
      exact k2
    · rcases h2 with ⟨q, h2, _⟩ | ⟨_, rfl⟩
      · cases h2
      · exact BackSt.none _ _
  · exact BackSt.none _ _
/-- what was there of the printed numbers to be read -/
def OutIs (b : List UInt8) (st : Option Int) (out : List Int) (st' : Option Int) : Prop := ∃ st1, ListIs (st.bind (listR b 256)) out st1 ∧ ((out.length % 2 = 0 ∧ st' = st1) ∨ (out.length % 2 ≠ 0 ∧ st' = none))
theorem Dec2.out' {b : List UInt8} {err : Int} {words : List Int} {ts : List Thr} {out : List Int} {st st' : Option Int} (h : Dec2 b err words ts st) (h1 : OutIs b st out st') : Dec3 b err words ts out st' := by
  obtain ⟨st1, h1, ⟨_, rfl⟩ | ⟨h2, rfl⟩⟩ := h1
  · exact h.out h1
  · exact Dec3.of_none ((h.out h1).odd h2)
theorem outL_outP : ∀ (l : List Int), l.length % 2 = 0 → outL (outP l) = l
  | [], _ => rfl
  | [a], h => by simp at h
  | a :: b :: l, h => by
    rw [outP, outL_cons, outL_outP l (by simp only [List.length_cons] at h; omega)]
theorem BackSt.out {b pre : List UInt8} {st st' : Option Int} {out : List Int} (h : BackSt b pre st) (h1 : OutIs b st out st') : BackSt b (pre ++ listB (outL (outP out))) st' := by
  obtain ⟨st1, h1, ⟨h2, rfl⟩ | ⟨_, rfl⟩⟩ := h1
  · rw [outL_outP out h2]; exact h.list h1
  · exact BackSt.none _ _
theorem BackSt.whole {b pre : List UInt8} (h : BackSt b pre (some (b.length : Int))) : pre = b := by
  obtain ⟨_, _, h⟩ := h _ rfl
  rw [← h]; simp

def OutPost (w0 W : World) (g : Nat) (y : Value) (b : List UInt8) (st : Option Int) (e : Ending) (W' : World) : Prop :=
  ∃ v outs out st', e = .returned v ∧ OwnR outCells 2 62 W.heap.size W' v outs ∧ RS 100 w0 W' g y b st' ∧ outs = outP out ∧ out.length ≤ 256 ∧ OutIs b st out st' ∧ (∀ x ∈ out, I64 x) ∧ W.grownBy W' (some g)
set_option maxHeartbeats 4000000 in
set_option maxRecDepth 100000 in
theorem rfOutput_any (w0 W : World) (g : Nat) (y : Value) (b : List UInt8) (st : Option Int) (hS : RS 100 w0 W g y b st) (hl : b.length ≤ 4294967296) :
    Calls Try.prog 61 #[.pointer (some ⟨g, 0, none⟩), .int .i64 128] W (OutPost w0 W g y b st) := by
  go_enter Try.func61, Try.ntmps61
  go_wp2_with fail
  refine (rfList_any w0 W g y b st 256 (by omega) (by omega) hS hl).mono ?_
  rintro e w1 ⟨z, out, st1, rfl, ho1, hS1, hI1, hl1, hok1, hg1⟩
  obtain ⟨Ao, co, rfl, _, _⟩ := ho1.inV
  have HI := Lib.hid hI1
  have HO := Lib.hid hok1
  clear hI1 hok1
  go_upto_if 15 with fail
  go_cut [15] from 12 to 18 (fun s wx => ∃ st2, RS 100 w0 wx g y b st2 ∧ OwnV iv 3 W.heap.size wx (Value.slice Ao out.length co) out ∧ Hid (OutIs b st out st2) ∧ W.grownBy wx (some g))
  case first =>
    by_cases hodd : out.length % 2 = 0
    · have e70 : ((out.length : Int) % 2 == 1) = false := by simp; omega
      go_wp2_with fail
      go_meet
      exact ⟨st1, hS1, ho1, Lib.hid ⟨st1, HI.out, .inl ⟨hodd, rfl⟩⟩, hg1⟩
    · have e70 : ((out.length : Int) % 2 == 1) = true := by simp; omega
      obtain ⟨p, bad, hBR, _⟩ := id hS1.blk
      obtain ⟨r0, r1, r2, _, _, fr2⟩ := blk3 hBR
      have hltr := heap_lt hBR
      go_wp2_with fail
      go_meet
      have hg2 : w1.grownBy (w1.setCell ⟨g, 2, none⟩ (.bool true)) (some g) := gset w1 ⟨g, 2, none⟩ (.bool true)
      exact ⟨none, hS1.put (p := p) (bad := true) hg2 (blk_set hBR 2 _), ho1.kept hg2 (.inr (ho1.ne_blk hBR (by decide))), Lib.hid ⟨st1, HI.out, .inr ⟨hodd, rfl⟩⟩, gtrans hg1 hg2⟩
  case rest =>
    obtain ⟨st2, hS2, ho2, HU, hg2⟩ := hcut
    clear hS1 ho1 hg1
    go_wp2_with fail
    go_loopw [6, 7] (fun v i wr => ∃ (j : Nat) (outs : List (Int × Int)), i = .int .i64 (j : Int) ∧ j % 2 = 0 ∧ j ≤ out.length ∧ OwnR outCells 2 62 W.heap.size wr v outs ∧ RS 100 w0 wr g y b st2 ∧ OwnV iv 3 W.heap.size wr (Value.slice Ao out.length co) out ∧ Hid (outs = outP (out.take j)) ∧ outs.length ≤ 128 ∧ W.grownBy wr (some g)) (fun _ i _ => out.length + 2 - (intOf i).toNat)
    case atStart => exact ⟨0, [], rfl, rfl, by omega, OwnR.nil _, hS2, ho2, Lib.hid (by simp [outP]), by simp, hg2⟩
    case round =>
      clear hS2 ho2 hg2
      obtain ⟨j, outs, rfl, hev, hjl, hov, hS2, ho2, HP, hlo, hg2⟩ := hrel
      obtain ⟨wp, rfl⟩ : ∃ wp : World, wp = wr := ⟨_, rfl⟩
      by_cases hj : j + 1 < out.length
      · have hj1 : (j : Int) + 1 < (out.length : Int) := by omega
        have hj0 : (j : Int) < (out.length : Int) := by omega
        have hj2 : ¬ (j : Int) + 1 < 0 := by omega
        have hwr : IntKind.i64.wrap ((j : Int) + 1) = (j : Int) + 1 := by rw [IntKind.wrap_i64]; omega
        have HP2 := Lib.hid (outP_take hev hj)
        have hol := Lib.hid (outP_len (out.take (j + 2)))
        obtain ⟨go, co', eo, _, hgo⟩ := ho2.form (by omega)
        injection eo with eo1 _ eo2
        subst eo1 eo2
        obtain ⟨yo, hyo⟩ : ∃ yo, yo = u6 := ⟨_, rfl⟩
        subst hyo
        have HX : ∀ W, wp.grownBy W yo.ownBlock → W.cell? ⟨go, j, none⟩ = some (.int .i64 out[j]) ∧ W.cell? ⟨go, j + 1, none⟩ = some (.int .i64 out[j + 1]) := fun W hW => by
          have h1 := ho2.kept hW (row_ne ho2 hov (by decide))
          exact ⟨(h1.at_ rfl j (by omega)).1, (h1.at_ rfl (j + 1) hj).1⟩
        generalize out[j] = x0 at *
        generalize out[j + 1] = x1 at *
        go_wp2_with fail
        refine wp_region_Z #[true, true, true, true, true, true, true, true, true, true, true, true, true, false] yo.ownBlock 13 1 (by kernel_rfl) rfl ?_
        refine wpZ_v 0 (yo) rfl rfl (by kernel_rfl) (by kernel_rfl) (by kernel_rfl) (fun _ _ _ _ h => h) (by kernel_rfl) rfl (by rfl) (fun W' hW => by
          skip
          go_simp) ?_
        simp only [List.setIfInBounds_toArray, List.set_cons_zero, List.set_cons_succ]
        refine wpZ_v 1 ((Value.slice (some ⟨go, 0, none⟩) out.length co)) rfl rfl (by kernel_rfl) (by kernel_rfl) (by kernel_rfl) (fun _ _ _ _ h => h) (by kernel_rfl) rfl (by rfl) (fun W' hW => by
          skip
          go_simp) ?_
        simp only [List.setIfInBounds_toArray, List.set_cons_zero, List.set_cons_succ]
        refine wpZ_v 2 (.int .i64 (j : Int)) rfl rfl (by kernel_rfl) (by kernel_rfl) (by kernel_rfl) (fun _ _ _ _ h => h) (by kernel_rfl) rfl (by rfl) (fun W' hW => by
          skip
          go_simp) ?_
        simp only [List.setIfInBounds_toArray, List.set_cons_zero, List.set_cons_succ]
        refine wpZ_v 3 (.pointer (some ⟨go, j, none⟩)) rfl rfl (by kernel_rfl) (by kernel_rfl) (by kernel_rfl) (fun _ _ _ _ h => h) (by kernel_rfl) rfl (by rfl) (fun W' hW => by
          skip
          go_simp) ?_
        simp only [List.setIfInBounds_toArray, List.set_cons_zero, List.set_cons_succ]
        refine wpZ_v 4 (.int .i64 x0) rfl rfl (by kernel_rfl) (by kernel_rfl) (by kernel_rfl) (fun _ _ _ _ h => h) (by kernel_rfl) rfl (by rfl) (fun W' hW => by
          obtain ⟨x0c, x1c⟩ := HX W' (gtrans (((Ext.refl wp).drew).grownBy _) hW)
          go_simp) ?_
        simp only [List.setIfInBounds_toArray, List.set_cons_zero, List.set_cons_succ]
        refine wpZ_v 5 ((Value.slice (some ⟨go, 0, none⟩) out.length co)) rfl rfl (by kernel_rfl) (by kernel_rfl) (by kernel_rfl) (fun _ _ _ _ h => h) (by kernel_rfl) rfl (by rfl) (fun W' hW => by
          skip
          go_simp) ?_
        simp only [List.setIfInBounds_toArray, List.set_cons_zero, List.set_cons_succ]
        refine wpZ_v 6 (.int .i64 (j : Int)) rfl rfl (by kernel_rfl) (by kernel_rfl) (by kernel_rfl) (fun _ _ _ _ h => h) (by kernel_rfl) rfl (by rfl) (fun W' hW => by
          skip
          go_simp) ?_
        simp only [List.setIfInBounds_toArray, List.set_cons_zero, List.set_cons_succ]
        refine wpZ_v 7 (.int .i64 ((j : Int) + 1)) rfl rfl (by kernel_rfl) (by kernel_rfl) (by kernel_rfl) (fun _ _ _ _ h => h) (by kernel_rfl) rfl (by rfl) (fun W' hW => by
          skip
          go_simp) ?_
        simp only [List.setIfInBounds_toArray, List.set_cons_zero, List.set_cons_succ]
        refine wpZ_v 8 (.pointer (some ⟨go, j + 1, none⟩)) rfl rfl (by kernel_rfl) (by kernel_rfl) (by kernel_rfl) (fun _ _ _ _ h => h) (by kernel_rfl) rfl (by rfl) (fun W' hW => by
          skip
          go_simp) ?_
        simp only [List.setIfInBounds_toArray, List.set_cons_zero, List.set_cons_succ]
        refine wpZ_v 9 (.int .i64 x1) rfl rfl (by kernel_rfl) (by kernel_rfl) (by kernel_rfl) (fun _ _ _ _ h => h) (by kernel_rfl) rfl (by rfl) (fun W' hW => by
          obtain ⟨x0c, x1c⟩ := HX W' (gtrans (((Ext.refl wp).drew).grownBy _) hW)
          go_simp) ?_
        simp only [List.setIfInBounds_toArray, List.set_cons_zero, List.set_cons_succ]
        refine wpZ_v 10 (.agg #[.int .i64 x0, .int .i64 x1]) rfl rfl (by kernel_rfl) (by kernel_rfl) (by kernel_rfl) (fun _ _ _ _ h => h) (by kernel_rfl) rfl (by rfl) (fun W' hW => by
          skip
          go_simp) ?_
        simp only [List.setIfInBounds_toArray, List.set_cons_zero, List.set_cons_succ]
        refine wpZ_m 11 rfl rfl (by kernel_rfl) rfl (by rfl) fun W1 hW1 => ?_
        have hX1 := ((Ext.refl wp).drew).trans hW1
        have hX := (Ext.refl W1).alloc (.cells #[.int .i64 x0, .int .i64 x1] 62)
        refine ⟨.slice (some ⟨W1.heap.size, 0, none⟩) 1 1, W1.alloc (.cells #[.int .i64 x0, .int .i64 x1] 62), by go_simp, hX.grownBy _, ?_⟩
        simp only [List.setIfInBounds_toArray, List.set_cons_zero, List.set_cons_succ]
        have hin : InR outCells (W1.alloc (.cells #[.int .i64 x0, .int .i64 x1] 62)) (.slice (some ⟨W1.heap.size, 0, none⟩) 1 1) [(x0, x1)] := (OwnR_one (f := outCells) W1 (x0, x1) rfl 62).inR
        have hX2 := hX1.trans hX
        generalize W1.alloc (.cells #[.int .i64 x0, .int .i64 x1] 62) = W2 at *
        generalize W1.heap.size = gn at *
        refine wpZ_appendR elem_pr 12 (.tmp 26) (.tmp 37) W.heap.size yo outs _ [(x0, x1)] rfl rfl (by kernel_rfl) rfl (by rfl) rfl rfl rfl (hov.ext hX2) hin (fun _ _ => rfl) (fun a ha u hu => by simp only [List.mem_singleton] at ha; subst ha; simp only [outCells, List.mem_cons, List.not_mem_nil, or_false] at hu; rcases hu with rfl | rfl <;> rfl) (by simp; omega) (by omega) (by have := hg2.size; have := hX2.size; omega) fun v4 W3 W4 hW3 ho4 hg4 => ?_
        simp only [List.setIfInBounds_toArray, List.set_cons_zero, List.set_cons_succ]
        have hX3 := hX2.trans hW3
        refine wpZ_end rfl fun W5 hW5 => tail_seq 13 rfl (by kernel_rfl) ?_
        simp only [List.drop_succ_cons, List.drop_zero]
        have ho5 := ho4.ext hW5
        obtain ⟨pr, badr, hBR, _⟩ := id hS2.blk
        have hS5 := ((hS2.grow hX3).far hg4.grown (hov.ne_blk hBR (by decide)).symm (fun k e => by have := hov.ge k e; have := hS.ext.size; omega)).grow hW5
        have hn5 := ((ho2.ext hX3).kept hg4.grown (row_ne (ho2.ext hX3) (hov.ext hX3) (by decide))).ext hW5
        have hg5 := gtrans (gnew (gtrans hg2 (hX3.grownBy _)) hg4.grown hov.ge) (hW5.grownBy _)
        have HP3 : Hid (outs ++ [(x0, x1)] = outP (out.take (j + 2))) := Lib.hid (by rw [HP2.out, HP.out])
        clear hin ho4 hg4 hX3 hBR HX hX1 hX2 hX hW1 hW3 hW5 HP HP2 hov hS2 ho2 hg2
        go_wp2_with fail
        refine NoPanic.normal ?_
        go_wp2_with fail
        go_roundw
        case rel => exact ⟨j + 2, outs ++ [(x0, x1)], by go_num, by omega, by omega, ho5, hS5, hn5, HP3, by
          have h1 := hol.out
          rw [← HP3.out, List.length_take] at h1
          omega, hg5⟩
        case measure => simp [intOf]; omega
      · have hj1 : ¬ (j : Int) + 1 < (out.length : Int) := by omega
        have HP2 : Hid (outs = outP out) := Lib.hid (by rw [HP.out, outP_end hev hj])
        clear HP
        go_wp2_with fail
        go_ret
        exact ⟨_, outs, out, st2, rfl, hov, hS2, HP2.out, by omega, HU.out, HO.out, hg2⟩
end Go.Proofs.Ytoeibcpjmoekpaa
