/- MessageDecodes: the walk. -/
import Derived.Test.YtoeibcpjmoekpaaRepL
import Derived.Test.YtoeibcpjmoekpaaRepO
namespace Go.Proofs.Ytoeibcpjmoekpaa
open Go.RowKit
set_option linter.unusedVariables false

theorem xorB (a b : Int) : ∃ c : UInt8, bits .xor .u8 a b = (c.toNat : Int) := by
  have h : 0 ≤ bits .xor .u8 a b ∧ bits .xor .u8 a b < 256 := by
    show 0 ≤ IntKind.u8.wrap _ ∧ IntKind.u8.wrap _ < 256
    simp only [IntKind.wrap, IntKind.bits, IntKind.signed]
    simp
    omega
  refine ⟨UInt8.ofNat (bits .xor .u8 a b).toNat, ?_⟩
  rw [ofNat_small (by omega)]
  omega
theorem headB {w : World} {x : Value} {l : List UInt8} (hx : InB w x l) (hi : Nat) (h1 : hi ≤ l.length) : ∃ A c, (∀ W, (Instr.slice 22 x none (some (.int .i64 (hi : Int))) none).run Try.prog W = .ok (.slice A hi c) W) ∧ InB w (.slice A hi c) (l.take hi) := by
  obtain ⟨i0, hi0, _, hi1, _⟩ := info_parts u8_info
  exact InV.pre Try.underlying22 hi0 hi1 hx hi h1
section
variable {P : Program} {ops : Array Oper} {Q : Exit → Act → World → Prop}
theorem op_makeD {B : Nat} {ob : Oper} {d : Tmp} {K : Act → World → Prop} {tm : Array Value} {df : List Deferred} {W W' : World} {v : Value} (hob : ops[B]? = some ob) (hd : ob.dst = some d) (gb : ob.guard = none) (hmk : (execOp (Act.mk tm df).eval ob).run P W = .ok (.value v) W') (h : K ⟨tm.setIfInBounds d v, df⟩ W') : wpOp P ops Q B K ⟨tm, df⟩ W :=
  op_make hob gb hmk (by rw [hd]; exact h)
theorem op_callD {B : Nat} {ob : Oper} {d : Tmp} {K : Act → World → Prop} {tm : Array Value} {df : List Deferred} {W : World} {f : FuncId} {args : Array Value} (hob : ops[B]? = some ob) (hd : ob.dst = some d) (gb : ob.guard = none) (hx : (execOp (Act.mk tm df).eval ob).run P W = .ok (.enter f args) W) (h : Calls P f args W (fun e w' => ∃ v, e = .returned v ∧ K ⟨tm.setIfInBounds d v, df⟩ w')) : wpOp P ops Q B K ⟨tm, df⟩ W :=
  op_call hob gb hx (by rw [hd]; exact h)
theorem op_appendD {α : Type} {f : α → Value} {e t : TypeId} {bytes : Nat} (he : Elem1 P t e bytes) (h1 : ∀ y, (f y).oneCell' = true) {base : Nat} {v : Value} {l m : List α} {A : Nat} {oa : Oper} {d : Tmp} {s x : Operand} {u : Value} {K : Act → World → Prop} {tm : Array Value} {df : List Deferred} {W : World}
    (hoa : ops[A]? = some oa) (hd : oa.dst = some d) (ga : oa.guard = none) (op : oa.op = .call { callee := .builtin .append, args := #[s, x], argTypes := #[t, t] }) (hs : (Act.mk tm df).eval s = v) (hu : (Act.mk tm df).eval x = u)
    (hb : base ≤ W.heap.size) (hl : l.length + m.length ≤ 1073741824) (hby : bytes ≤ 4096) (h2 : OwnV f e base W v l) (h3 : InV f W u m)
    (h : ∀ v' W', OwnV f e base W' v' (l ++ m) → Grew W W' v v' → K ⟨tm.setIfInBounds d v', df⟩ W') : wpOp P ops Q A K ⟨tm, df⟩ W :=
  op_append he h1 hoa ga op hs hu hb hl hby h2 h3 (fun v' W' a b => by rw [hd]; exact h v' W' a b)
end
/-- whatever the world -/
def AnyS (f : Nat → Bool) (W : World) : Prop := True
def RowY (B : Nat) (W : World) (g j : Nat) : Prop := ∃ (y : Value) (l : List UInt8), W.cell? ⟨g, j, none⟩ = some y ∧ InB W y l ∧ l.length ≤ B
theorem RowY.ext {B : Nat} {W W' : World} {g j : Nat} (h : RowY B W g j) (he : Ext W W') : RowY B W' g j := by
  obtain ⟨y, l, h1, h2, h3⟩ := h
  exact ⟨y, l, he.cell h1, h2.ext he, h3⟩
set_option maxHeartbeats 4000000 in
set_option maxRecDepth 100000 in
theorem decodes36_walk (x1 x2 x3 x4 : Value) (raw : List UInt8) (c : Cmd) (r : Rep) (at_ : List Int) (by_ cut : Int) (w : World) (hu : InB w x1 raw) (hc : CmdAt w x2 c) (hr : RepAt w x3 r) (hz : InI w x4 at_) (kc : c.Ok) (kr : r.Ok)
    (lr : r.threads.length ≤ 9223372036854775807) :
    Calls Try.prog 11 #[x1, x2, x3, x4, .int .u8 by_, .int .i64 cut] w fun e w' => e = .returned (.bool true) ∧ Ext w w' := by
  obtain ⟨RR, rr, rfl, _, _⟩ := id hu
  obtain ⟨y5, rfl, i5⟩ := hc
  obtain ⟨D5, d5, rfl, _, _⟩ := id i5
  obtain ⟨yw, yt, yo, rfl, i7⟩ := hr
  obtain ⟨A1, a1, B1, b1, E1, e1, rfl, rfl, rfl⟩ := i7.forms
  obtain ⟨T4, t4, rfl, _, _⟩ := id hz
  have I5 := Lib.hid i5
  have I7 := Lib.hid i7
  have KC := Lib.hid kc
  have KR := Lib.hid kr
  clear i5 i7 kc kr
  go_enter Try.func11, Try.ntmps11
  go_upto_region 1 with fail
  obtain ⟨W, hW, hE, hC, hR⟩ : ∃ W, W = (w.alloc (.cells #[.int .i64 c.kind, .int .i64 c.thread, .int .i64 c.addr, .int .i64 c.n, .slice D5 c.words.length d5] 28)).alloc (.cells #[.int .i64 r.err, .slice A1 r.words.length a1, .slice B1 r.threads.length b1, .slice E1 r.output.length e1, .int .i64 r.s0, .int .i64 r.s1, .int .i64 r.s2, .int .i64 r.s3, .int .i64 r.s4, .int .i64 r.s5, .int .i64 r.s6] 58) ∧ Ext w W ∧ W.heap[w.heap.size]? = some (.cells #[.int .i64 c.kind, .int .i64 c.thread, .int .i64 c.addr, .int .i64 c.n, .slice D5 c.words.length d5] 28 (0, 0)) ∧ W.heap[w.heap.size + 1]? = some (.cells #[.int .i64 r.err, .slice A1 r.words.length a1, .slice B1 r.threads.length b1, .slice E1 r.output.length e1, .int .i64 r.s0, .int .i64 r.s1, .int .i64 r.s2, .int .i64 r.s3, .int .i64 r.s4, .int .i64 r.s5, .int .i64 r.s6] 58 (0, 0)) := ⟨_, rfl, ((Ext.refl w).alloc _).alloc _, ((Ext.refl _).alloc _).heap (heap_alloc_new w _), by have := heap_alloc_new (w.alloc (.cells #[.int .i64 c.kind, .int .i64 c.thread, .int .i64 c.addr, .int .i64 c.n, .slice D5 c.words.length d5] 28)) (.cells #[.int .i64 r.err, .slice A1 r.words.length a1, .slice B1 r.threads.length b1, .slice E1 r.output.length e1, .int .i64 r.s0, .int .i64 r.s1, .int .i64 r.s2, .int .i64 r.s3, .int .i64 r.s4, .int .i64 r.s5, .int .i64 r.s6] 58); simpa using this⟩
  rw [← hW]
  clear hW
  obtain ⟨c0, c1, c2, c3, c4⟩ := blk5 hC
  obtain ⟨q0, q1, q2, q3, q4, q5, q6, q7, q8, q9, q10⟩ := blk11 hR
  by_cases t0 : 1000 < raw.length
  · have t0' : decide ((1000 : Int) < (raw.length : Int)) = true := by simp; omega
    go_wp2_with fail
    refine (awake36_any W).mono ?_
    rintro e wz ⟨rfl, hez⟩
    go_wp2_with fail
    go_ret
    exact ⟨rfl, hE.trans hez⟩
  have t0' : decide ((1000 : Int) < (raw.length : Int)) = false := by simp; omega
  by_cases t1 : 20 < c.words.length
  · have t1' : decide ((20 : Int) < (c.words.length : Int)) = true := by simp; omega
    go_wp2_with fail
    refine (awake36_any W).mono ?_
    rintro e wz ⟨rfl, hez⟩
    go_wp2_with fail
    go_ret
    exact ⟨rfl, hE.trans hez⟩
  have t1' : decide ((20 : Int) < (c.words.length : Int)) = false := by simp; omega
  go_wp2_with fail
  refine (small_any _ r W ⟨_, _, _, rfl, I7.out.ext hE⟩ lr).mono ?_
  rintro e w1 ⟨f1, rfl, hf1, he1⟩
  have HF1 := Lib.hid hf1
  have hE1 := hE.trans he1
  have hC1 := he1.heap hC
  have hR1 := he1.heap hR
  clear c0 c1 c2 c3 c4 q0 q1 q2 q3 q4 q5 q6 q7 q8 q9 q10 hC hR hf1 he1 hE
  obtain ⟨q0, q1, q2, q3, q4, q5, q6, q7, q8, q9, q10⟩ := blk11 hR1
  cases f1 with
  | false =>
    go_wp2_with fail
    refine (awake36_any w1).mono ?_
    rintro e wz ⟨rfl, hez⟩
    go_wp2_with fail
    go_ret
    exact ⟨rfl, hE1.trans hez⟩
  | true =>
  have HM1 := Lib.hid (HF1.out.1 rfl)
  clear HF1
  by_cases t2 : 20 < r.words.length
  · have t2' : decide ((20 : Int) < (r.words.length : Int)) = true := by simp; omega
    go_wp2_with fail
    refine (awake36_any w1).mono ?_
    rintro e wz ⟨rfl, hez⟩
    go_wp2_with fail
    go_ret
    exact ⟨rfl, hE1.trans hez⟩
  have t2' : decide ((20 : Int) < (r.words.length : Int)) = false := by simp; omega
  by_cases t3 : 20 < r.output.length
  · have t3' : decide ((20 : Int) < (r.output.length : Int)) = true := by simp; omega
    go_wp2_with fail
    refine (awake36_any w1).mono ?_
    rintro e wz ⟨rfl, hez⟩
    go_wp2_with fail
    go_ret
    exact ⟨rfl, hE1.trans hez⟩
  have t3' : decide ((20 : Int) < (r.output.length : Int)) = false := by simp; omega
  obtain ⟨c0, c1, c2, c3, c4⟩ := blk5 hC1
  go_wp2_with fail
  refine (refEncodeCommand_any _ c w1 ⟨_, rfl, I5.out.ext hE1⟩ KC.out (by omega)).mono ?_
  rintro e w3 ⟨y3, er3, rfl, hc3, he3⟩
  obtain ⟨_, rfl, ho3⟩ | ⟨hc3, _, _⟩ := hc3
  rotate_left
  · omega
  have hla := encC_len KC.out (by omega)
  have hE3 := hE1.trans he3
  have hR3 := he3.heap hR1
  have ia := ho3.inV
  clear c0 c1 c2 c3 c4 q0 q1 q2 q3 q4 q5 q6 q7 q8 q9 q10 hC1 hR1 he3 hE1 ho3
  obtain ⟨q0, q1, q2, q3, q4, q5, q6, q7, q8, q9, q10⟩ := blk11 hR3
  go_wp2_with fail
  refine (near_any _ r 7 w w3 hE3 ⟨_, _, _, rfl, I7.out⟩ (by have := HM1.out.threads; omega)).mono ?_
  rintro e w4 ⟨yw7, t7, yo7, n7, rfl, hno7, hnn7, _, he4⟩
  have hE4 := hE3.trans he4
  have hni := hno7.in_ hE4
  have HNK := Lib.hid (hnn7.ok KR.out)
  have HNG := Lib.hid hni.threads.regs
  clear hno7 hnn7 q0 q1 q2 q3 q4 q5 q6 q7 q8 q9 q10 hR3 hE3
  go_wp2_with fail
  refine (refEncodeReply_any _ n7 w4 ⟨_, _, _, rfl, hni⟩ HNK.out).mono ?_
  rintro e w6 ⟨y6v, er6, rfl, hc6, he6⟩
  obtain ⟨lb, ib, hlb⟩ : ∃ lb, InB w6 y6v lb ∧ lb.length ≤ 6000 := by
    rcases hc6 with ⟨hf, _, h⟩ | ⟨_, _, rfl⟩
    · exact ⟨_, h.inV, (encR_len HNK.out hf HNG.out).2⟩
    · exact ⟨[], InV.nil _, by simp⟩
  have hE6 := hE4.trans he6
  have ia6 := ia.ext (he4.trans he6)
  clear hc6 he6 he4 hE4 ia hni HNK HNG
  generalize encC c = la at *
  obtain ⟨Y3, y3, rfl, _, _⟩ := id ia6
  obtain ⟨Y6, y6, rfl, _, _⟩ := id ib
  go_wp2_with fail
  have hbt := heap_alloc_new w6 (.cells #[.slice Y3 la.length y3, .slice Y6 lb.length y6] 22)
  have hat := (Ext.refl w6).alloc (.cells #[.slice Y3 la.length y3, .slice Y6 lb.length y6] 22)
  generalize w6.alloc (.cells #[.slice Y3 la.length y3, .slice Y6 lb.length y6] 22) = w7 at *
  generalize w6.heap.size = gt at *
  have hRW : ∀ j, j < 2 → RowY 6000 w7 gt j := by
    intro j hj
    rcases (show j = 0 ∨ j = 1 by omega) with rfl | rfl
    · exact ⟨_, la, blk_at hbt 0 _ rfl, ia6.ext hat, by omega⟩
    · exact ⟨_, lb, blk_at hbt 1 _ rfl, ib.ext hat, by omega⟩
  have HRW := Lib.hid hRW
  have hE7 := hE6.trans hat
  clear hRW hbt hat ia6 ib hE6
  go_loopw [73] (fun i wr => ∃ j : Nat, j ≤ 2 ∧ i = .int .i64 (j : Int) ∧ Ext w7 wr) (fun i _ => 2 - (intOf i).toNat)
  case atStart => exact ⟨0, by omega, rfl, Ext.refl w7⟩
  case round =>
    obtain ⟨j0, hj0, rfl, hE8⟩ := hrel
    obtain ⟨wo, rfl⟩ : ∃ wo : World, wo = wr := ⟨_, rfl⟩
    by_cases hj2 : j0 < 2
    rotate_left
    · obtain rfl : j0 = 2 := by omega
      have hEo := hE7.trans hE8
      go_wp2_with fail
      refine (awake36_any wo).mono ?_
      rintro e wz ⟨rfl, hez⟩
      go_wp2_with fail
      go_ret
      exact ⟨rfl, hEo.trans hez⟩
    obtain ⟨yl, ll, hcl, hil, hll⟩ := (HRW.out j0 hj2).ext hE8
    obtain ⟨Yl, cl, rfl, _, _⟩ := id hil
    have hj2' : (j0 : Int) < 2 := by omega
    go_wp2_with (at_builtin; go_must (refine wpList_appendV elem_u8 (fun _ => rfl) rfl (.tmp 77) (.tmp 78) rfl wo.heap.size _ [] rfl (own_empty wo _ rfl).toV _ ll rfl (hil.ext ((Ext.refl wo).alloc _)) (by simp; omega) (by omega) (by simp) (Hold.out ?_)))
    refine Hold.mk fun v9 w9 ho9 hg9 => ?_
    have hE9 := hg9.ext ((Ext.refl wo).alloc _) (fun k hk => by simp only [Value.ownBlock, Option.some.injEq] at hk; omega)
    clear hg9 hcl hil
    obtain ⟨Ax, cx, rfl, _, _⟩ := ho9.inV
    obtain ⟨N, hN⟩ : ∃ N, N = ll.length := ⟨_, rfl⟩
    rw [← hN] at ho9 ⊢
    have HN := Lib.hid hN
    have hNb : N ≤ 6000 := by omega
    clear hN
    go_wp2_with fail
    go_loopw [20] (fun i wr => ∃ (k : Nat) (lx : List UInt8), k ≤ 3 ∧ i = .int .i64 (k : Int) ∧ Hid (lx.length = N) ∧ OwnV bv 5 wo.heap.size wr (.slice Ax N cx) lx ∧ Ext wo wr) (fun i _ => 3 - (intOf i).toNat)
    case atStart => exact ⟨0, ll, by omega, rfl, Lib.hid HN.out.symm, ho9, hE9⟩
    case round =>
      clear ho9 hE9
      obtain ⟨k, lx, hk3, rfl, HLX, ho, hx⟩ := hrel
      obtain ⟨wp, rfl⟩ : ∃ wp : World, wp = wr := ⟨_, rfl⟩
      go_upto_region 10 with fail
      go_cut [92] from 80 to 107 (fun s wx => s = .bool (decide (k < at_.length) && decide (k < 3) && decide (0 < N)) ∧ wp = wx)
      case first =>
        by_cases h1 : k < at_.length
        · have h1' : (k : Int) < (at_.length : Int) := by omega
          by_cases h2 : k < 3
          · have h2' : (k : Int) < 3 := by omega
            by_cases h3 : 0 < N
            · have h3' : (0 : Int) < (N : Int) := by omega
              go_wp2_with fail
              go_meet
              exact ⟨by simp [h1, h2, h3], rfl⟩
            · have h3' : ¬ (0 : Int) < (N : Int) := by omega
              go_wp2_with fail
              go_meet
              exact ⟨by simp [h3], rfl⟩
          · have h2' : ¬ (k : Int) < 3 := by omega
            go_wp2_with fail
            go_meet
            exact ⟨by simp [h2], rfl⟩
        · have h1' : ¬ (k : Int) < (at_.length : Int) := by omega
          go_wp2_with fail
          go_meet
          exact ⟨by simp [h1], rfl⟩
      case rest =>
        obtain ⟨rfl, rfl⟩ := hcut
        cases hgo : (decide (k < at_.length) && decide (k < 3) && decide (0 < N)) with
        | true =>
          obtain ⟨⟨hka, hk3'⟩, hN0⟩ : (k < at_.length ∧ k < 3) ∧ 0 < N := by simpa using hgo
          clear hgo
          obtain ⟨bb, oo, rfl, hcz⟩ := InI.at_ (hz.ext ((hE7.trans hE8).trans hx)) hka
          have hi1 : (k : Int) < (at_.length : Int) := by omega
          obtain ⟨gx, cx', e, hgx1, hgx2⟩ := ho.form (by have := HLX.out; omega)
          injection e with ex1 ex3 ex2
          subst ex1
          clear ex2 ex3
          generalize at_[k] = ak at *
          go_wp2_with fail
          refine (Mod_any ak (N : Int) wp (by omega) (by omega)).mono ?_
          rintro e w4 ⟨rfl, rfl⟩
          have m0 := Int.emod_nonneg ak (show (N : Int) ≠ 0 by omega)
          have m1 := Int.emod_lt_of_pos ak (show (0 : Int) < (N : Int) by omega)
          obtain ⟨mm, hmm⟩ := Int.eq_ofNat_of_zero_le m0
          rw [hmm] at m1 ⊢
          clear hmm m0
          have hmN : mm < lx.length := by have := HLX.out; omega
          obtain ⟨hcm, hfm⟩ := ho.at_ HLX.out.symm mm hmN
          unfold bv at hcm
          obtain ⟨cc, hcc⟩ := xorB ((lx[mm].toNat : Nat) : Int) by_
          have hput := ho.put HLX.out.symm mm cc
          have hx2 := hx.setCell (p := ⟨gx, mm, none⟩) hgx1 (bv cc)
          obtain ⟨ho2, _⟩ := hput
          unfold bv at ho2 hx2
          generalize ((lx[mm].toNat : Nat) : Int) = om at *
          go_wp2_with fail
          go_roundw
          case rel => exact ⟨k + 1, lx.set mm cc, by omega, by go_num, Lib.hid (by rw [List.length_set]; exact HLX.out), ho2, hx2⟩
          case measure => simp [intOf]; omega
        | false =>
          clear hgo
          have hEp := (hE7.trans hE8).trans hx
          have m0 := Int.emod_nonneg cut (show (N : Int) + 1 ≠ 0 by omega)
          have m1 := Int.emod_lt_of_pos cut (show (0 : Int) < (N : Int) + 1 by omega)
          obtain ⟨mm, hmm⟩ := Int.eq_ofNat_of_zero_le m0
          rw [hmm] at m1
          obtain ⟨A3, c3, hsl3, hin3⟩ := headB ho.inV mm (by have := HLX.out; omega)
          have HMM := Lib.hid hmm
          have hwr : IntKind.i64.wrap ((N : Int) + 1) = (N : Int) + 1 := by rw [IntKind.wrap_i64]; omega
          clear hmm m0
          go_upto_region 13 with fail
          go_cut [73, 122, 123, 124] from 73 to 169 (fun i t n jv wx => i = .int .i64 (j0 : Int) ∧ ∃ gq, t = .slice (some ⟨gq, 0, none⟩) 4 4 ∧ n = .int .i64 4 ∧ jv = .int .i64 0 ∧ (∀ j, j < 4 → RowY 8000 wx gq j) ∧ Ext w7 wx)
          case first =>
            have hS : AnyS (upF [] #[false, false, false, false, false, false, false, false, false, false, false, false, false, false, false, false, false]) wp.drew := trivial
            refine wp_region_V [] AnyS 17 #[false, false, false, false, false, false, false, false, false, false, false, false, false, false, false, false, false] (by kernel_rfl) rfl (by kernel_rfl) ?_
            refine wpV_v 0 (.slice RR raw.length rr) rfl rfl (by kernel_rfl) (by kernel_rfl) (by kernel_rfl) (fun _ _ _ _ h => h) (by kernel_rfl) hS rfl (fun W' f hW hf => by
              skip
              go_simp) (fun hS' => ?_)
            replace hS := hS'; clear hS'
            simp only [List.setIfInBounds_toArray, List.set_cons_zero, List.set_cons_succ] at hS ⊢
            refine wpV_v 1 ((.slice Ax N cx)) rfl rfl (by kernel_rfl) (by kernel_rfl) (by kernel_rfl) (fun _ _ _ _ h => h) (by kernel_rfl) hS rfl (fun W' f hW hf => by
              skip
              go_simp) (fun hS' => ?_)
            replace hS := hS'; clear hS'
            simp only [List.setIfInBounds_toArray, List.set_cons_zero, List.set_cons_succ] at hS ⊢
            refine wpV_v 2 ((.slice Ax N cx)) rfl rfl (by kernel_rfl) (by kernel_rfl) (by kernel_rfl) (fun _ _ _ _ h => h) (by kernel_rfl) hS rfl (fun W' f hW hf => by
              skip
              go_simp) (fun hS' => ?_)
            replace hS := hS'; clear hS'
            simp only [List.setIfInBounds_toArray, List.set_cons_zero, List.set_cons_succ] at hS ⊢
            refine wpV_v 3 (.int .i64 cut) rfl rfl (by kernel_rfl) (by kernel_rfl) (by kernel_rfl) (fun _ _ _ _ h => h) (by kernel_rfl) hS rfl (fun W' f hW hf => by
              skip
              go_simp) (fun hS' => ?_)
            replace hS := hS'; clear hS'
            simp only [List.setIfInBounds_toArray, List.set_cons_zero, List.set_cons_succ] at hS ⊢
            refine wpV_v 4 ((.slice Ax N cx)) rfl rfl (by kernel_rfl) (by kernel_rfl) (by kernel_rfl) (fun _ _ _ _ h => h) (by kernel_rfl) hS rfl (fun W' f hW hf => by
              skip
              go_simp) (fun hS' => ?_)
            replace hS := hS'; clear hS'
            simp only [List.setIfInBounds_toArray, List.set_cons_zero, List.set_cons_succ] at hS ⊢
            refine wpV_v 5 (.int .i64 (N : Int)) rfl rfl (by kernel_rfl) (by kernel_rfl) (by kernel_rfl) (fun _ _ _ _ h => h) (by kernel_rfl) hS rfl (fun W' f hW hf => by
              skip
              go_simp) (fun hS' => ?_)
            replace hS := hS'; clear hS'
            simp only [List.setIfInBounds_toArray, List.set_cons_zero, List.set_cons_succ] at hS ⊢
            refine wpV_v 6 (.int .i64 ((N : Int) + 1)) rfl rfl (by kernel_rfl) (by kernel_rfl) (by kernel_rfl) (fun _ _ _ _ h => h) (by kernel_rfl) hS rfl (fun W' f hW hf => by
              skip
              go_simp) (fun hS' => ?_)
            replace hS := hS'; clear hS'
            simp only [List.setIfInBounds_toArray, List.set_cons_zero, List.set_cons_succ] at hS ⊢
            refine wpV_v 10 ((.slice Ax N cx)) rfl rfl (by kernel_rfl) (by kernel_rfl) (by kernel_rfl) (fun _ _ _ _ h => h) (by kernel_rfl) hS rfl (fun W' f hW hf => by
              skip
              go_simp) (fun hS' => ?_)
            replace hS := hS'; clear hS'
            simp only [List.setIfInBounds_toArray, List.set_cons_zero, List.set_cons_succ] at hS ⊢
            refine wpV_v 12 (.slice RR raw.length rr) rfl rfl (by kernel_rfl) (by kernel_rfl) (by kernel_rfl) (fun _ _ _ _ h => h) (by kernel_rfl) hS rfl (fun W' f hW hf => by
              skip
              go_simp) (fun hS' => ?_)
            replace hS := hS'; clear hS'
            simp only [List.setIfInBounds_toArray, List.set_cons_zero, List.set_cons_succ] at hS ⊢
            refine wpV_v 16 (.int .i64 0) rfl rfl (by kernel_rfl) (by kernel_rfl) (by kernel_rfl) (fun _ _ _ _ h => h) (by kernel_rfl) hS rfl (fun W' f hW hf => by
              skip
              go_simp) (fun hS' => ?_)
            replace hS := hS'; clear hS'
            simp only [List.setIfInBounds_toArray, List.set_cons_zero, List.set_cons_succ] at hS ⊢
            refine wpV_2 7 9 (by kernel_rfl) ?_ ?_
            · refine op_callD (f := 17) (args := #[.int .i64 cut, .int .i64 ((N : Int) + 1)]) rfl rfl rfl (by go_simp) ?_
              refine (Mod_any cut ((N : Int) + 1) wp.drew (by omega) (by omega)).mono ?_
              rintro e w9' ⟨rfl, rfl⟩
              rw [HMM.out]
              refine ⟨_, rfl, trivial, ?_⟩
              simp only [List.setIfInBounds_toArray, List.set_cons_zero, List.set_cons_succ]
              replace hS : AnyS (upF [] (true :: true :: true :: true :: true :: true :: true :: true :: false :: false :: true :: false :: true :: false :: false :: false :: true :: []).toArray) wp.drew := trivial
              refine wpV_v 8 (.slice A3 mm c3) rfl rfl (by kernel_rfl) (by kernel_rfl) (by kernel_rfl) (fun _ _ _ _ h => h) (by kernel_rfl) hS rfl (fun W' f hW hf => by
                skip
                go_simp) (fun hS' => ?_)
              replace hS := hS'; clear hS'
              simp only [List.setIfInBounds_toArray, List.set_cons_zero, List.set_cons_succ] at hS ⊢
              refine wpV_1 9 (by kernel_rfl) ?_
              refine op_makeD (v := .slice (some ⟨wp.drew.heap.size, 0, none⟩) 0 0) (W' := wp.drew.alloc (.cells #[] 5)) rfl rfl rfl (by go_simp) ⟨trivial, ?_⟩
              simp only [List.setIfInBounds_toArray, List.set_cons_zero, List.set_cons_succ]
              have hXp := (Ext.refl wp).drew
              generalize wp.drew = w10 at *
              refine wpV_1 11 (by kernel_rfl) ?_
              refine op_appendD (v := .slice (some ⟨w10.heap.size, 0, none⟩) 0 0) (u := (.slice Ax N cx)) (l := []) (m := lx) elem_u8 (fun _ => rfl) rfl rfl rfl rfl rfl rfl (Nat.le_of_lt (by simp)) (by simp; have := HLX.out; omega) (by omega) (own_empty w10 _ rfl).toV (ho.inV.ext (hXp.trans ((Ext.refl w10).alloc _))) ?_
              intro v11 w11 ho11 hg11
              have hE11 := hg11.ext ((Ext.refl w10).alloc _) (fun k hk => by simp only [Value.ownBlock, Option.some.injEq] at hk; omega)
              refine ⟨trivial, ?_⟩
              simp only [List.setIfInBounds_toArray, List.set_cons_zero, List.set_cons_succ]
              refine wpV_1 13 (by kernel_rfl) ?_
              refine op_appendD (v := v11) (u := .slice RR raw.length rr) (l := [] ++ lx) (m := raw) elem_u8 (fun _ => rfl) rfl rfl rfl rfl rfl rfl hE11.size (by simp; have := HLX.out; omega) (by omega) ho11 (hu.ext ((hEp.trans hXp).trans hE11)) ?_
              intro v13 w13 ho13 hg13
              have hE13 := hg13.ext hE11 ho11.ge
              refine ⟨trivial, ?_⟩
              simp only [List.setIfInBounds_toArray, List.set_cons_zero, List.set_cons_succ]
              clear hg11 hg13 ho11
              have hl5 : ([] ++ lx ++ raw).length ≤ 8000 := by have := HLX.out; simp; omega
              obtain ⟨A5, c5, rfl, _, _⟩ := ho13.inV
              generalize ([] ++ lx ++ raw) = l5 at *
              refine wpV_1 14 (by kernel_rfl) ?_
              refine op_makeD (v := .slice (some ⟨w13.heap.size, 0, none⟩) 4 4) (W' := w13.alloc (.cells #[.slice RR raw.length rr, .slice Ax N cx, .slice A3 mm c3, .slice A5 l5.length c5] 22)) rfl rfl rfl (by go_simp) ⟨trivial, ?_⟩
              simp only [List.setIfInBounds_toArray, List.set_cons_zero, List.set_cons_succ]
              have hS : AnyS (upF [] (true :: true :: true :: true :: true :: true :: true :: true :: true :: true :: true :: true :: true :: true :: true :: false :: true :: []).toArray) (w13.alloc (.cells #[.slice RR raw.length rr, .slice Ax N cx, .slice A3 mm c3, .slice A5 l5.length c5] 22)) := trivial
              refine wpV_v 15 (.int .i64 4) rfl rfl (by kernel_rfl) (by kernel_rfl) (by kernel_rfl) (fun _ _ _ _ h => h) (by kernel_rfl) hS rfl (fun W' f hW hf => by
                skip
                go_simp) (fun hS' => ?_)
              replace hS := hS'; clear hS'
              simp only [List.setIfInBounds_toArray, List.set_cons_zero, List.set_cons_succ] at hS ⊢
              refine wpV_end (by kernel_rfl) ?_
              refine NoPanic.normal ?_
              have hb14 := heap_alloc_new w13 (.cells #[.slice RR raw.length rr, .slice Ax N cx, .slice A3 mm c3, .slice A5 l5.length c5] 22)
              have hX14 := (Ext.refl w13).alloc (.cells #[.slice RR raw.length rr, .slice Ax N cx, .slice A3 mm c3, .slice A5 l5.length c5] 22)
              have hXX := hXp.trans (hE13.trans hX14)
              go_wp2_with fail
              go_meet
              refine ⟨rfl, w13.heap.size, rfl, rfl, rfl, ?_, (hE8.trans hx).trans hXX⟩
              intro j hj
              rcases (show j = 0 ∨ j = 1 ∨ j = 2 ∨ j = 3 by omega) with rfl | rfl | rfl | rfl
              · exact ⟨_, raw, blk_at hb14 0 _ rfl, hu.ext (hEp.trans hXX), by omega⟩
              · exact ⟨_, lx, blk_at hb14 1 _ rfl, ho.inV.ext hXX, by have := HLX.out; omega⟩
              · exact ⟨_, lx.take mm, blk_at hb14 2 _ rfl, hin3.ext hXX, by have := HLX.out; simp; omega⟩
              · exact ⟨_, l5, blk_at hb14 3 _ rfl, ho13.inV.ext hX14, hl5⟩
            · refine op_makeD (v := .slice (some ⟨wp.drew.heap.size, 0, none⟩) 0 0) (W' := wp.drew.alloc (.cells #[] 5)) rfl rfl rfl (by go_simp) ⟨trivial, ?_⟩
              simp only [List.setIfInBounds_toArray, List.set_cons_zero, List.set_cons_succ]
              refine wpV_1 7 (by kernel_rfl) ?_
              refine op_callD (f := 17) (args := #[.int .i64 cut, .int .i64 ((N : Int) + 1)]) rfl rfl rfl (by go_simp) ?_
              refine (Mod_any cut ((N : Int) + 1) _ (by omega) (by omega)).mono ?_
              rintro e w9' ⟨rfl, rfl⟩
              rw [HMM.out]
              refine ⟨_, rfl, trivial, ?_⟩
              simp only [List.setIfInBounds_toArray, List.set_cons_zero, List.set_cons_succ]
              replace hS : AnyS (upF [] (true :: true :: true :: true :: true :: true :: true :: true :: false :: true :: true :: false :: true :: false :: false :: false :: true :: []).toArray) (wp.drew.alloc (.cells #[] 5)) := trivial
              refine wpV_v 8 (.slice A3 mm c3) rfl rfl (by kernel_rfl) (by kernel_rfl) (by kernel_rfl) (fun _ _ _ _ h => h) (by kernel_rfl) hS rfl (fun W' f hW hf => by
                skip
                go_simp) (fun hS' => ?_)
              replace hS := hS'; clear hS'
              simp only [List.setIfInBounds_toArray, List.set_cons_zero, List.set_cons_succ] at hS ⊢
              have hXp := (Ext.refl wp).drew
              generalize wp.drew = w10 at *
              refine wpV_1 11 (by kernel_rfl) ?_
              refine op_appendD (v := .slice (some ⟨w10.heap.size, 0, none⟩) 0 0) (u := (.slice Ax N cx)) (l := []) (m := lx) elem_u8 (fun _ => rfl) rfl rfl rfl rfl rfl rfl (Nat.le_of_lt (by simp)) (by simp; have := HLX.out; omega) (by omega) (own_empty w10 _ rfl).toV (ho.inV.ext (hXp.trans ((Ext.refl w10).alloc _))) ?_
              intro v11 w11 ho11 hg11
              have hE11 := hg11.ext ((Ext.refl w10).alloc _) (fun k hk => by simp only [Value.ownBlock, Option.some.injEq] at hk; omega)
              refine ⟨trivial, ?_⟩
              simp only [List.setIfInBounds_toArray, List.set_cons_zero, List.set_cons_succ]
              refine wpV_1 13 (by kernel_rfl) ?_
              refine op_appendD (v := v11) (u := .slice RR raw.length rr) (l := [] ++ lx) (m := raw) elem_u8 (fun _ => rfl) rfl rfl rfl rfl rfl rfl hE11.size (by simp; have := HLX.out; omega) (by omega) ho11 (hu.ext ((hEp.trans hXp).trans hE11)) ?_
              intro v13 w13 ho13 hg13
              have hE13 := hg13.ext hE11 ho11.ge
              refine ⟨trivial, ?_⟩
              simp only [List.setIfInBounds_toArray, List.set_cons_zero, List.set_cons_succ]
              clear hg11 hg13 ho11
              have hl5 : ([] ++ lx ++ raw).length ≤ 8000 := by have := HLX.out; simp; omega
              obtain ⟨A5, c5, rfl, _, _⟩ := ho13.inV
              generalize ([] ++ lx ++ raw) = l5 at *
              refine wpV_1 14 (by kernel_rfl) ?_
              refine op_makeD (v := .slice (some ⟨w13.heap.size, 0, none⟩) 4 4) (W' := w13.alloc (.cells #[.slice RR raw.length rr, .slice Ax N cx, .slice A3 mm c3, .slice A5 l5.length c5] 22)) rfl rfl rfl (by go_simp) ⟨trivial, ?_⟩
              simp only [List.setIfInBounds_toArray, List.set_cons_zero, List.set_cons_succ]
              have hS : AnyS (upF [] (true :: true :: true :: true :: true :: true :: true :: true :: true :: true :: true :: true :: true :: true :: true :: false :: true :: []).toArray) (w13.alloc (.cells #[.slice RR raw.length rr, .slice Ax N cx, .slice A3 mm c3, .slice A5 l5.length c5] 22)) := trivial
              refine wpV_v 15 (.int .i64 4) rfl rfl (by kernel_rfl) (by kernel_rfl) (by kernel_rfl) (fun _ _ _ _ h => h) (by kernel_rfl) hS rfl (fun W' f hW hf => by
                skip
                go_simp) (fun hS' => ?_)
              replace hS := hS'; clear hS'
              simp only [List.setIfInBounds_toArray, List.set_cons_zero, List.set_cons_succ] at hS ⊢
              refine wpV_end (by kernel_rfl) ?_
              refine NoPanic.normal ?_
              have hb14 := heap_alloc_new w13 (.cells #[.slice RR raw.length rr, .slice Ax N cx, .slice A3 mm c3, .slice A5 l5.length c5] 22)
              have hX14 := (Ext.refl w13).alloc (.cells #[.slice RR raw.length rr, .slice Ax N cx, .slice A3 mm c3, .slice A5 l5.length c5] 22)
              have hXX := hXp.trans (hE13.trans hX14)
              go_wp2_with fail
              go_meet
              refine ⟨rfl, w13.heap.size, rfl, rfl, rfl, ?_, (hE8.trans hx).trans hXX⟩
              intro j hj
              rcases (show j = 0 ∨ j = 1 ∨ j = 2 ∨ j = 3 by omega) with rfl | rfl | rfl | rfl
              · exact ⟨_, raw, blk_at hb14 0 _ rfl, hu.ext (hEp.trans hXX), by omega⟩
              · exact ⟨_, lx, blk_at hb14 1 _ rfl, ho.inV.ext hXX, by have := HLX.out; omega⟩
              · exact ⟨_, lx.take mm, blk_at hb14 2 _ rfl, hin3.ext hXX, by have := HLX.out; simp; omega⟩
              · exact ⟨_, l5, blk_at hb14 3 _ rfl, ho13.inV.ext hX14, hl5⟩
          case rest =>
            obtain ⟨rfl, gq, rfl, rfl, rfl, hQ, hEc⟩ := hcut
            have HQ := Lib.hid hQ
            clear hQ ho hx hin3 hsl3 HMM hwr m1 hE8 hEp
            obtain ⟨w14, hw14⟩ : ∃ w14, w14 = wc := ⟨_, rfl⟩
            subst hw14
            go_wp2_with fail
            go_loopw [124] (fun i wr => ∃ j : Nat, j ≤ 4 ∧ i = .int .i64 (j : Int) ∧ Ext w14 wr) (fun i _ => 4 - (intOf i).toNat)
            case atStart => exact ⟨0, by omega, rfl, Ext.refl w14⟩
            case round =>
              obtain ⟨j, hj, rfl, hE15⟩ := hrel
              obtain ⟨wq, rfl⟩ : ∃ wq : World, wq = wr := ⟨_, rfl⟩
              by_cases hj4 : j < 4
              · obtain ⟨yj, lj, hcj, hij, hlj⟩ := (HQ.out j hj4).ext hE15
                have hj4' : (j : Int) < 4 := by omega
                obtain ⟨Yj, cj, rfl, _, _⟩ := id hij
                go_wp2_with fail
                refine (DecodeCommand_any _ lj wq hij (by omega)).mono ?_
                rintro e w20 ⟨v20, p1, er1, rfl, hd1, ⟨y20, rfl, ho20⟩, he20⟩
                obtain ⟨U1, v1, rfl, _, _⟩ := ho20.inV
                go_upto_region 17 with fail
                have hb21 := heap_alloc_new w20 (.cells #[.int .i64 p1.kind, .int .i64 p1.thread, .int .i64 p1.addr, .int .i64 p1.n, .slice U1 p1.words.length v1] 28)
                have hX21 := (Ext.refl w20).alloc (.cells #[.int .i64 p1.kind, .int .i64 p1.thread, .int .i64 p1.addr, .int .i64 p1.n, .slice U1 p1.words.length v1] 28)
                have hP21 : CmdAt (w20.alloc (.cells #[.int .i64 p1.kind, .int .i64 p1.thread, .int .i64 p1.addr, .int .i64 p1.n, .slice U1 p1.words.length v1] 28)) (.agg #[.int .i64 p1.kind, .int .i64 p1.thread, .int .i64 p1.addr, .int .i64 p1.n, .slice U1 p1.words.length v1]) p1 := ⟨_, rfl, ho20.inV.ext hX21⟩
                have hE21 := he20.trans hX21
                clear hX21 ho20 he20 hcj
                generalize w20.alloc (.cells #[.int .i64 p1.kind, .int .i64 p1.thread, .int .i64 p1.addr, .int .i64 p1.n, .slice U1 p1.words.length v1] 28) = w21 at *
                generalize w20.heap.size = g21 at *
                go_wp2_with fail
                refine (refDecodeCommand_any _ lj w21 (hij.ext hE21) (by omega)).mono ?_
                rintro e w22 ⟨v22, p2, er2, rfl, hd2, ⟨y22, rfl, ho22⟩, he22⟩
                obtain ⟨rfl, rfl⟩ := hd1.one hd2
                have hle1 : p1.words.length ≤ 128 := by
                  rcases hd1 with ⟨_, h⟩ | ⟨_, rfl, _⟩
                  · exact h.len
                  · simp [cmd0]
                obtain ⟨U2, v2, rfl, _, _⟩ := ho22.inV
                clear hd1 hd2
                go_upto_region 18 with fail
                have hb23 := heap_alloc_new w22 (.cells #[.int .i64 p1.kind, .int .i64 p1.thread, .int .i64 p1.addr, .int .i64 p1.n, .slice U2 p1.words.length v2] 28)
                have hX23 := (Ext.refl w22).alloc (.cells #[.int .i64 p1.kind, .int .i64 p1.thread, .int .i64 p1.addr, .int .i64 p1.n, .slice U2 p1.words.length v2] 28)
                have hP23 : CmdAt (w22.alloc (.cells #[.int .i64 p1.kind, .int .i64 p1.thread, .int .i64 p1.addr, .int .i64 p1.n, .slice U2 p1.words.length v2] 28)) (.agg #[.int .i64 p1.kind, .int .i64 p1.thread, .int .i64 p1.addr, .int .i64 p1.n, .slice U2 p1.words.length v2]) p1 := ⟨_, rfl, ho22.inV.ext hX23⟩
                have hX23' := he22.trans hX23
                have hE23 := hE21.trans hX23'
                have hP21' := hP21.ext hX23'
                have hb21' := hX23'.heap hb21
                clear hX23 ho22 he22 hX23' hP21 hb21 hE21
                generalize w22.alloc (.cells #[.int .i64 p1.kind, .int .i64 p1.thread, .int .i64 p1.addr, .int .i64 p1.n, .slice U2 p1.words.length v2] 28) = w23 at *
                generalize w22.heap.size = g23 at *
                go_wp2_with fail
                refine (DecodeReply_any _ lj w23 (hij.ext hE23) (by omega)).mono ?_
                rintro e w24 ⟨v24, q1, er3, rfl, hd3, ⟨mw, mt, mo, rfl, i24⟩, he24⟩
                obtain ⟨Mw, Mwc, Mt, Mtc, Mo, Moc, rfl, rfl, rfl⟩ := i24.forms
                go_upto_region 19 with fail
                have hb25 := heap_alloc_new w24 (.cells #[.int .i64 q1.err, .slice Mw q1.words.length Mwc, .slice Mt q1.threads.length Mtc, .slice Mo q1.output.length Moc, .int .i64 q1.s0, .int .i64 q1.s1, .int .i64 q1.s2, .int .i64 q1.s3, .int .i64 q1.s4, .int .i64 q1.s5, .int .i64 q1.s6] 58)
                have hX25 := (Ext.refl w24).alloc (.cells #[.int .i64 q1.err, .slice Mw q1.words.length Mwc, .slice Mt q1.threads.length Mtc, .slice Mo q1.output.length Moc, .int .i64 q1.s0, .int .i64 q1.s1, .int .i64 q1.s2, .int .i64 q1.s3, .int .i64 q1.s4, .int .i64 q1.s5, .int .i64 q1.s6] 58)
                have hQ25 : RepAt (w24.alloc (.cells #[.int .i64 q1.err, .slice Mw q1.words.length Mwc, .slice Mt q1.threads.length Mtc, .slice Mo q1.output.length Moc, .int .i64 q1.s0, .int .i64 q1.s1, .int .i64 q1.s2, .int .i64 q1.s3, .int .i64 q1.s4, .int .i64 q1.s5, .int .i64 q1.s6] 58)) (.agg #[.int .i64 q1.err, .slice Mw q1.words.length Mwc, .slice Mt q1.threads.length Mtc, .slice Mo q1.output.length Moc, .int .i64 q1.s0, .int .i64 q1.s1, .int .i64 q1.s2, .int .i64 q1.s3, .int .i64 q1.s4, .int .i64 q1.s5, .int .i64 q1.s6]) q1 := ⟨_, _, _, rfl, i24.ext hX25⟩
                have hX25' := he24.trans hX25
                have hE25 := hE23.trans hX25'
                have hP21a := hP21'.ext hX25'
                have hP23a := hP23.ext hX25'
                have hb21a := hX25'.heap hb21'
                have hb23a := hX25'.heap hb23
                clear hX25 he24 hX25' hP21' hP23 hb21' hb23 hE23 i24
                generalize w24.alloc (.cells #[.int .i64 q1.err, .slice Mw q1.words.length Mwc, .slice Mt q1.threads.length Mtc, .slice Mo q1.output.length Moc, .int .i64 q1.s0, .int .i64 q1.s1, .int .i64 q1.s2, .int .i64 q1.s3, .int .i64 q1.s4, .int .i64 q1.s5, .int .i64 q1.s6] 58) = w25 at *
                generalize w24.heap.size = g25 at *
                go_wp2_with fail
                refine (refDecodeReply_any _ lj w25 (hij.ext hE25) (by omega)).mono ?_
                rintro e w26 ⟨v26, q2, er4, rfl, hd4, ⟨kw, kt, ko, rfl, i26⟩, he26⟩
                obtain ⟨rfl, rfl⟩ := hd3.one hd4
                have HMQ : Hid q1.Mid := Lib.hid (by
                  rcases hd3 with ⟨_, h⟩ | ⟨_, rfl, _⟩
                  · exact h.fits.mid
                  · exact ⟨by simp [rep0], by simp [rep0], by simp [rep0], by simp [rep0]⟩)
                obtain ⟨Kw, Kwc, Kt, Ktc, Ko, Koc, rfl, rfl, rfl⟩ := i26.forms
                clear hd3 hd4
                go_upto_region 20 with fail
                have hb27 := heap_alloc_new w26 (.cells #[.int .i64 q1.err, .slice Kw q1.words.length Kwc, .slice Kt q1.threads.length Ktc, .slice Ko q1.output.length Koc, .int .i64 q1.s0, .int .i64 q1.s1, .int .i64 q1.s2, .int .i64 q1.s3, .int .i64 q1.s4, .int .i64 q1.s5, .int .i64 q1.s6] 58)
                have hX27 := (Ext.refl w26).alloc (.cells #[.int .i64 q1.err, .slice Kw q1.words.length Kwc, .slice Kt q1.threads.length Ktc, .slice Ko q1.output.length Koc, .int .i64 q1.s0, .int .i64 q1.s1, .int .i64 q1.s2, .int .i64 q1.s3, .int .i64 q1.s4, .int .i64 q1.s5, .int .i64 q1.s6] 58)
                have hQ27 : RepAt (w26.alloc (.cells #[.int .i64 q1.err, .slice Kw q1.words.length Kwc, .slice Kt q1.threads.length Ktc, .slice Ko q1.output.length Koc, .int .i64 q1.s0, .int .i64 q1.s1, .int .i64 q1.s2, .int .i64 q1.s3, .int .i64 q1.s4, .int .i64 q1.s5, .int .i64 q1.s6] 58)) (.agg #[.int .i64 q1.err, .slice Kw q1.words.length Kwc, .slice Kt q1.threads.length Ktc, .slice Ko q1.output.length Koc, .int .i64 q1.s0, .int .i64 q1.s1, .int .i64 q1.s2, .int .i64 q1.s3, .int .i64 q1.s4, .int .i64 q1.s5, .int .i64 q1.s6]) q1 := ⟨_, _, _, rfl, i26.ext hX27⟩
                have hX27' := he26.trans hX27
                have hE27 := hE25.trans hX27'
                have hP21b := hP21a.ext hX27'
                have hP23b := hP23a.ext hX27'
                have hQ25b := hQ25.ext hX27'
                have hb21b := hX27'.heap hb21a
                have hb23b := hX27'.heap hb23a
                have hb25b := hX27'.heap hb25
                clear hX27 he26 hX27' hP21a hP23a hb21a hb23a hE25 i26 hQ25 hb25
                generalize w26.alloc (.cells #[.int .i64 q1.err, .slice Kw q1.words.length Kwc, .slice Kt q1.threads.length Ktc, .slice Ko q1.output.length Koc, .int .i64 q1.s0, .int .i64 q1.s1, .int .i64 q1.s2, .int .i64 q1.s3, .int .i64 q1.s4, .int .i64 q1.s5, .int .i64 q1.s6] 58) = w27 at *
                generalize w26.heap.size = g27 at *
                have ne1 : (er1 != er1) = false := by simp
                have ne3 : (er3 != er3) = false := by simp
                obtain ⟨c0, c1, c2, c3', c4⟩ := blk5 hb21b
                obtain ⟨k0, k1, k2, k3, k4⟩ := blk5 hb23b
                go_wp2_with fail
                refine (SameCommand_any _ _ p1 p1 w27 hP21b hP23b (by omega) (by omega)).mono ?_
                rintro e w28 ⟨f28, rfl, hf28, he28⟩
                obtain rfl : f28 = true := hf28.2 rfl
                have hE28 := hE27.trans he28
                have hQ25c := hQ25b.ext he28
                have hQ27c := hQ27.ext he28
                clear hf28 c0 c1 c2 c3' c4 k0 k1 k2 k3 k4 hP21b hP23b hQ25b hQ27 hb21b hb23b hE27
                obtain ⟨q0, q1', q2, q3, q4, q5, q6, q7, q8, q9, q10⟩ := blk11 (he28.heap hb25b)
                obtain ⟨p0, p1', p2, p3, p4, p5, p6, p7, p8, p9, p10⟩ := blk11 (he28.heap hb27)
                clear hb25b hb27 he28
                go_wp2_with fail
                refine (SameReply_any _ _ q1 q1 w28 hQ25c hQ27c HMQ.out HMQ.out).mono ?_
                rintro e w29 ⟨f29, rfl, hf29, he29⟩
                obtain rfl : f29 = true := hf29.2 rfl
                have hE29 := (hE15.trans hE28).trans he29
                clear hf29 q0 q1' q2 q3 q4 q5 q6 q7 q8 q9 q10 p0 p1' p2 p3 p4 p5 p6 p7 p8 p9 p10 hQ25c hQ27c he29 hE28 ne1 ne3 HMQ
                go_wp2_with fail
                go_roundw
                case rel => exact ⟨j + 1, by omega, by go_num, hE29⟩
                case measure => simp [intOf]; omega
              · obtain rfl : j = 4 := by omega
                have hE16 := hEc.trans hE15
                go_wp2_with fail
                go_roundw
                case rel => exact ⟨j0 + 1, by omega, by go_num, hE16⟩
                case measure => simp [intOf]; omega
end Go.Proofs.Ytoeibcpjmoekpaa
