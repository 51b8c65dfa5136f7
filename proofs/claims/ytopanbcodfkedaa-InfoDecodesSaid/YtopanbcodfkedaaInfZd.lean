/- The walk of the specification's tree. -/
import Derived.Test.YtopanbcodfkedaaInfZc
namespace Go.Proofs.Ytopanbcodfkedaa
open Go.RowKit
set_option linter.unusedVariables false
set_option linter.unusedSimpArgs false

def pshCells (z : PSh × Value) : List Value := [.int .i64 z.1.tag, .int .i64 z.1.kids, z.2]
theorem psh_load {w : World} {b o : Nat} {t : PSh} {y : Value} (h : w.rangeAt b o (pshCells (t, y))) : (Instr.loadAt 69 (.pointer (some ⟨b, o, none⟩))).run Try.prog w = .ok (.agg #[.int .i64 t.tag, .int .i64 t.kids, y]) w :=
  run_loadAt_mid (P := Try.prog) w b o 69 _ _ h Try.underlying69 rfl (by kernel_rfl)
theorem Kept.g1 {gr : Nat} {w W : World} (h : Kept w.heap.size [gr] w W) : w.grownBy W (some gr) := ⟨h.os, h.tape, h.output, h.size, fun i hi hn => h.block i hi (fun hm => by
  simp only [List.mem_cons, List.not_mem_nil, or_false] at hm
  exact hn (by rw [hm]))⟩
theorem EOwn.keptR {b0 gr : Nat} {x : Value} {s : RS18} {w W : World} {v : Value} {l : List Ent} (hk : Kept w.heap.size [gr] w W) (h : EOwn b0 w v l) (hr : RBlk gr x s w) : EOwn b0 W v l := by
  obtain ⟨zs, h1, h2, h3⟩ := h
  exact ⟨zs, h1, hk.own1 h2 hr (by decide), fun z hz => hk.own1 (h3 z hz) hr (by decide)⟩
/-- the reader and the entries so far -/
structure TR (w : World) (gr : Nat) (x : Value) (s : RS18) (ov : Value) (l : List Ent) (W : World) : Prop where
  rd : RBlk gr x s W
  own : EOwn w.heap.size W ov l
  kept : Kept w.heap.size [gr] w W
section
variable {w ws W W' : World} {gr g9 g10 : Nat} {x ov y : Value} {s s' : RS18} {l : List Ent} {l2 : List Att} {hc ec : Array Value}
theorem TR.call (h : TR w gr x s ov l W) (hk : Kept W.heap.size [gr] W W') (hb : RBlk gr x s' W') : TR w gr x s' ov l W' := ⟨hb, h.own.keptR hk h.rd, h.kept.trans (hk.low' h.kept.size)⟩
theorem TR.reader (h : TR w gr x s ov l W) (hg : W.grownBy W' (some gr)) (hb : RBlk gr x s' W') : TR w gr x s' ov l W' :=
  h.call (Kept.of_grown hg (Nat.le_refl _) (fun k e => by cases e; exact .inr (by simp))) hb
theorem TR.ext (h : TR w gr x s ov l W) (he : Ext W W') : TR w gr x s ov l W' := ⟨he.heap h.rd, h.own.ext he, h.kept.trans (Kept.of_ext he h.kept.size)⟩
/-- the boxes of an entry that is read -/
structure TI (ws : World) (gr g9 g10 : Nat) (x : Value) (s : RS18) (hc ec : Array Value) (y : Value) (l2 : List Att) (W : World) : Prop where
  rd : RBlk gr x s W
  b9 : W.heap[g9]? = some (.cells hc 69 (0, 0))
  b10 : W.heap[g10]? = some (.cells ec 26 (0, 0))
  at_ : OwnR attCells 4 40 ws.heap.size W y l2
  low9 : ws.heap.size ≤ g9
  low10 : ws.heap.size ≤ g10
  kept : Kept ws.heap.size [gr] ws W
theorem RBlk.ne_any (h : RBlk gr x s W) {g : Nat} {D : Array Value} {t : TypeId} (hg : W.heap[g]? = some (.cells D t (0, 0))) (ht : t ≠ 107) : gr ≠ g := fun e => by
  subst e
  unfold RBlk at h
  rw [h] at hg
  injection hg with hg
  injection hg with _ h2
  exact ht h2.symm
theorem TI.call (h : TI ws gr g9 g10 x s hc ec y l2 W) (hk : Kept W.heap.size [gr] W W') (hb : RBlk gr x s' W') : TI ws gr g9 g10 x s' hc ec y l2 W' := by
  refine ⟨hb, ?_, ?_, hk.own1 h.at_ h.rd (by decide), h.low9, h.low10, h.kept.trans (hk.low' h.kept.size)⟩
  · rw [hk.block g9 (heap_lt h.b9) (by simp; exact fun e => h.rd.ne_any h.b9 (by decide) e.symm)]; exact h.b9
  · rw [hk.block g10 (heap_lt h.b10) (by simp; exact fun e => h.rd.ne_any h.b10 (by decide) e.symm)]; exact h.b10
theorem TI.ext (h : TI ws gr g9 g10 x s hc ec y l2 W) (he : Ext W W') : TI ws gr g9 g10 x s hc ec y l2 W' := ⟨he.heap h.rd, he.heap h.b9, he.heap h.b10, h.at_.ext he, h.low9, h.low10, h.kept.trans (Kept.of_ext he h.kept.size)⟩
theorem TI.grow (h : TI ws gr g9 g10 x s hc ec y l2 W) {y' : Value} {l3 : List Att} (ho : OwnR attCells 4 40 ws.heap.size W' y' l3) (hg : Grew W W' y y') : TI ws gr g9 g10 x s hc ec y' l3 W' :=
  ⟨blk_grown h.rd hg.grown (h.at_.ne_blk h.rd (by decide)).symm, blk_grown h.b9 hg.grown (h.at_.ne_blk h.b9 (by decide)).symm, blk_grown h.b10 hg.grown (h.at_.ne_blk h.b10 (by decide)).symm, ho, h.low9, h.low10, h.kept.trans (Kept.of_grown hg.grown h.kept.size (fun k e => .inl (h.at_.ge k e)))⟩
theorem TI.put (h : TI ws gr g9 g10 x s hc ec y l2 W) (j : Nat) (v : Value) : TI ws gr g9 g10 x s hc (ec.setIfInBounds j v) y l2 (W.setCell ⟨g10, j, none⟩ v) := by
  have hg := gset W ⟨g10, j, none⟩ v
  refine ⟨blk_grown h.rd hg (fun e => h.rd.ne_any h.b10 (by decide) (by injection e)), blk_grown h.b9 hg (fun e => ?_), blk_set h.b10 j v, h.at_.kept hg (.inr (h.at_.ne_blk h.b10 (by decide))), h.low9, h.low10, h.kept.trans (Kept.of_grown hg h.kept.size (fun k e => by cases e; exact .inl h.low10))⟩
  have e1 : g9 = g10 := by injection e
  have hb := h.b9
  rw [e1, h.b10] at hb
  injection hb with hb
  injection hb with _ h2
  exact absurd h2 (by decide)
end
def TreePstS (gr : Nat) (x : Value) (r : List Ent × RS18) (w : World) (en : Ending) (w' : World) : Prop := ∃ y, en = .returned y ∧ EOwn w.heap.size w' y r.1 ∧ RBlk gr x r.2 w' ∧ Kept w.heap.size [gr] w w'
def mea (gr bl : Nat) (W : World) : Nat := if intOf ((W.cell? ⟨gr, 2, none⟩).getD (.int .i64 0)) = 0 then bl + 2 - (intOf ((W.cell? ⟨gr, 1, none⟩).getD (.int .i64 0))).toNat else 0
theorem mea_eq {gr : Nat} {x : Value} {s : RS18} {W : World} (h : RBlk gr x s W) (bl : Nat) : mea gr bl W = if s.e = 0 then bl + 2 - s.p.toNat else 0 := by
  obtain ⟨_, h1, h2⟩ := blk3' h
  unfold mea
  rw [h1, h2]
  rfl
theorem failS_zero {er : Int} {s : RS18} (he : er ≠ 0) : (failS er s).e ≠ 0 := by
  unfold failS
  split
  · exact he
  · assumption
theorem uintS_fwd {b : List UInt8} {s : RS18} (h : (uintS b s).2.e = 0) : s.e = 0 ∧ 0 ≤ s.p ∧ s.p < (uintS b s).2.p ∧ (uintS b s).2.p ≤ b.length := by
  by_cases h0 : s.e = 0
  · obtain ⟨p, e⟩ := s
    simp only at h0
    subst h0
    rw [uintS_live] at h ⊢
    by_cases hu : (uintR b p).2.2 ≠ 0
    · rw [if_pos hu] at h
      exact absurd h hu
    · rw [if_neg hu]
      have := uintR_next (l := b) (p := p) (by simpa using hu)
      exact ⟨rfl, this⟩
  · rw [uintS_dead h0] at h
    exact absurd h h0
theorem attS_pos {b : List UInt8} {nm fm : Int} {s : RS18} (h : (attS b nm fm s).2.e = 0) (hs : s.e = 0 → s.p ≤ b.length) : s.e = 0 ∧ s.p ≤ (attS b nm fm s).2.p ∧ (attS b nm fm s).2.p ≤ b.length := by
  unfold attS at h ⊢
  by_cases h1 : fm = 1
  · rw [if_pos h1] at h ⊢
    unfold smallS at h ⊢
    by_cases h2 : 1099511627776 < (uintS b s).1
    · rw [if_pos h2] at h
      exact absurd h (failS_zero (by decide))
    · rw [if_neg h2] at h ⊢
      have := uintS_fwd h
      exact ⟨this.1, by simp only; omega, this.2.2.2⟩
  · rw [if_neg h1] at h ⊢
    by_cases h2 : fm = 2
    · rw [if_pos h2] at h ⊢
      by_cases h0 : s.e = 0
      · have hz : intS b s = if (intR b s.p).2.2 ≠ 0 then (0, ⟨s.p, (intR b s.p).2.2⟩) else ((intR b s.p).1, ⟨(intR b s.p).2.1, 0⟩) := by
          unfold intS
          rw [if_neg (by simpa using h0)]
        rw [hz] at h ⊢
        by_cases h3 : (intR b s.p).2.2 ≠ 0
        · rw [if_pos h3] at h
          exact absurd h h3
        · rw [if_neg h3]
          have := intR_fwd (l := b) (p := s.p) (by simpa using h3)
          exact ⟨h0, by simp only; omega, this.2.2⟩
      · unfold intS at h
        rw [if_pos h0] at h
        exact absurd h h0
    · rw [if_neg h2] at h ⊢
      by_cases h3 : fm = 3
      · rw [if_pos h3] at h ⊢
        by_cases h0 : s.e = 0
        · rw [if_pos h0] at h ⊢
          by_cases h4 : 40 < (textR b s.p).1.length
          · simp only at h
            rw [if_pos h4] at h
            exact absurd h (failS_zero (by decide))
          · simp only at h ⊢
            rw [if_neg h4] at h ⊢
            unfold txtF at h ⊢
            by_cases h5 : (textR b s.p).2.2 = 0
            · have := textR_next h5
              rw [h5, failS_live]
              exact ⟨h0, by simp only; omega, this.2.2⟩
            · exact absurd h (failS_zero h5)
        · rw [if_neg h0] at h
          exact absurd h h0
      · rw [if_neg h3] at h ⊢
        exact ⟨h, by simp only; omega, hs h⟩
theorem attsS_pos {b : List UInt8} : ∀ {r : List (Int × Int)} {l : List Att} {s : RS18}, (attsS b r l s).2.e = 0 → (s.e = 0 → s.p ≤ b.length) → s.e = 0 ∧ s.p ≤ (attsS b r l s).2.p ∧ (attsS b r l s).2.p ≤ b.length
  | [], l, s, h, hs => ⟨h, by show s.p ≤ s.p; omega, hs h⟩
  | x :: r, l, s, h, hs => by
    by_cases h0 : s.e ≠ 0
    · rw [attsS_dead h0] at h
      exact absurd h h0
    · have e : attsS b (x :: r) l s = attsS b r (l ++ [(attS b x.1 x.2 s).1]) (attS b x.1 x.2 s).2 := by rw [attsS, if_neg h0]
      rw [e] at h ⊢
      by_cases h1 : (attS b x.1 x.2 s).2.e = 0
      · have h2 := attS_pos h1 hs
        have h3 := attsS_pos h (fun _ => h2.2.2)
        exact ⟨h2.1, by omega, h3.2.2⟩
      · rw [attsS_dead h1] at h
        exact absurd h h1
set_option maxHeartbeats 40000000 in
set_option maxRecDepth 100000 in
theorem tree21_any (gr : Nat) (x sv : Value) (b : List UInt8) (zs : List (PSh × Value)) (w : World) (hx : St [gr] w (fun W => InB W x b)) (hS : St [gr] w (fun W => InR pshCells W sv zs ∧ ∀ z ∈ zs, InI W z.2 (flatP z.1.ps))) (hok : ∀ z ∈ zs, z.1.ps.length ≤ 12) (hzl : zs.length ≤ 201) (hb : RBlk gr x ⟨0, 0⟩ w) (hl : b.length ≤ 60000) :
    Calls Try.prog 47 #[.pointer (some ⟨gr, 0, none⟩), sv] w (TreePstS gr x (treeS (zs.map Prod.fst) b (b.length + 1) [] 0 true ⟨0, 0⟩) w) := by
  obtain ⟨AS, cS, hsv, _⟩ := id hS.out.1
  obtain ⟨zl, hzl'⟩ : ∃ z, z = zs.length := ⟨_, rfl⟩
  rw [← hzl'] at hsv hzl
  subst hsv
  have HZL := Lib.hid hzl'
  have HX := Lib.hid hx
  have HS := Lib.hid hS
  have HOK := Lib.hid hok
  have hT0 : TR w gr x ⟨0, 0⟩ (.slice none 0 0) [] w := ⟨hb, EOwn.nil _ _, Kept.refl _ _ _⟩
  obtain ⟨R, hR⟩ : ∃ R, R = treeS (zs.map Prod.fst) b (b.length + 1) [] 0 true ⟨0, 0⟩ := ⟨_, rfl⟩
  rw [← hR]
  obtain ⟨bl, hbl⟩ : ∃ n, n = b.length := ⟨_, rfl⟩
  have hbl6 : bl ≤ 60000 := by rw [hbl]; exact hl
  rw [← hbl] at hR
  have HR := Lib.hid hR
  have HBL := Lib.hid hbl
  clear hx hS hok hb hzl' hR hbl hl
  go_enter Try.func47, Try.ntmps47
  go_wp2_with fail
  go_loopw [5, 6, 7] (fun ov dv fv wr => ∃ (l : List Ent) (d : Int) (fr : Bool) (s : RS18) (f : Nat), dv = .int .i64 d ∧ fv = .bool fr ∧ Hid (R = treeS (zs.map Prod.fst) b f l d fr s) ∧ Hid (s.e = 0 → 0 ≤ s.p ∧ s.p ≤ bl ∧ (bl : Int) + 1 ≤ f + s.p) ∧ f ≤ 60001 ∧ (-70000 + (f : Int) ≤ d ∧ d ≤ 33) ∧ l.length ≤ 4000 ∧ TR w gr x s ov l wr) (fun _ _ _ W => mea gr bl W)
  case atStart => exact ⟨[], 0, true, ⟨0, 0⟩, bl + 1, rfl, rfl, HR, Lib.hid (fun _ => by simp only; omega), by omega, by omega, by simp, hT0⟩
  case round =>
    clear hT0
    obtain ⟨l, d, fr, s, f, rfl, rfl, HT, HP, hf6, hd, hl4, hT⟩ := hrel
    obtain ⟨wo, rfl⟩ : ∃ W : World, W = wr := ⟨_, rfl⟩
    obtain ⟨k0, k1, k2⟩ := blk3' hT.rd
    by_cases he0 : s.e = 0
    case neg =>
      have d0 : (s.e == 0) = false := by simpa using he0
      have d0' : decide (s.e = 0) = false := by simpa using he0
      have HE : Hid (R = ([], s)) := Lib.hid (by rw [HT.out]; exact treeS_dead he0)
      clear he0
      go_wp2_with fail
      go_ret
      exact ⟨_, rfl, by rw [HE.out]; exact EOwn.nil _ _, by rw [HE.out]; exact hT.rd, hT.kept⟩
    have d0 : (s.e == 0) = true := by simpa using he0
    have d0' : decide (s.e = 0) = true := by simpa using he0
    obtain ⟨hp0, hpb, hfp⟩ := HP.out he0
    obtain ⟨f1, rfl⟩ : ∃ f1, f = f1 + 1 := ⟨f - 1, by omega⟩
    have hm0 : mea gr bl wo = bl + 2 - s.p.toNat := by rw [mea_eq hT.rd, if_pos he0]
    have HM0 := Lib.hid hm0
    have HU : Hid (R = if (uintS b s).2.e ≠ 0 then ([], (uintS b s).2)
      else if (uintS b s).1 = 0 then (if fr = true then ([], failS 4 (uintS b s).2) else if d - 1 = 0 then (l, (uintS b s).2) else treeS (zs.map Prod.fst) b f1 l (d - 1) fr (uintS b s).2)
      else match (zs.map Prod.fst)[((uintS b s).1 - 1).toNat]? with
        | none => ([], failS 12 (uintS b s).2)
        | some z => if 4000 ≤ l.length ∨ 32 < d then ([], failS 5 (uintS b s).2)
          else if z.kids = 1 then treeS (zs.map Prod.fst) b f1 (l ++ [⟨d, z.tag, (attsS b z.ps [] (uintS b s).2).1⟩]) (d + 1) true (attsS b z.ps [] (uintS b s).2).2
          else if d = 0 then (l ++ [⟨d, z.tag, (attsS b z.ps [] (uintS b s).2).1⟩], (attsS b z.ps [] (uintS b s).2).2)
          else treeS (zs.map Prod.fst) b f1 (l ++ [⟨d, z.tag, (attsS b z.ps [] (uintS b s).2).1⟩]) d false (attsS b z.ps [] (uintS b s).2).2) := Lib.hid (by
      rw [HT.out]
      conv => lhs; unfold treeS
      rw [if_neg (fun h => h he0)]
      rfl)
    have hib := HX.out _ hT.kept
    have hrb := hT.rd
    have hbl6' : b.length ≤ 1000000 := by rw [← HBL.out]; omega
    clear he0 hm0 HT
    go_wp2_with fail
    refine (rUint_any gr x b s wo hib hrb hbl6').mono ?_
    rintro en0 w2 ⟨rfl, hb2, hg2⟩
    have hT2 := hT.reader hg2 hb2
    have hrng := uintS_range b s
    have HFW : Hid ((uintS b s).2.e = 0 → s.p < (uintS b s).2.p ∧ (uintS b s).2.p ≤ bl) := Lib.hid (fun h => by have := uintS_fwd h; rw [HBL.out]; exact ⟨this.2.2.1, this.2.2.2⟩)
    generalize uintS b s = u at *
    obtain ⟨v, s1⟩ := u
    dsimp only at hb2 hT2 hrng HU HFW ⊢
    clear hib hrb hb2 hg2 hT k0 k1 k2
    obtain ⟨k0, k1, k2⟩ := blk3' hT2.rd
    by_cases he1 : s1.e = 0
    case neg =>
      have d1 : (s1.e != 0) = true := by simpa using he1
      have d1' : decide (s1.e = 0) = false := by simpa using he1
      have HE : Hid (R = ([], s1)) := Lib.hid (by rw [HU.out, if_pos he1])
      clear he1
      go_wp2_with fail
      go_ret
      exact ⟨_, rfl, by rw [HE.out]; exact EOwn.nil _ _, by rw [HE.out]; exact hT2.rd, hT2.kept⟩
    have d1 : (s1.e != 0) = false := by simpa using he1
    have d1' : decide (s1.e = 0) = true := by simpa using he1
    obtain ⟨hpp, hpb1⟩ := HFW.out he1
    by_cases hv : v = 0
    case pos =>
      subst hv
      have hu1 : R = (if fr = true then ([], failS 4 s1) else if d - 1 = 0 then (l, s1) else treeS (zs.map Prod.fst) b f1 l (d - 1) fr s1) := by rw [HU.out, if_neg (fun h => h he1), if_pos rfl]
      cases fr with
      | true =>
        have HE : Hid (R = ([], failS 4 s1)) := Lib.hid (by rw [hu1, if_pos rfl])
        clear he1 hu1
        have hrb := hT2.rd
        go_wp2_with fail
        refine (rFail_any gr x 4 s1 w2 hrb).mono ?_
        rintro en0 wf ⟨⟨vf, rfl⟩, hbf, hgf⟩
        have hTF := hT2.reader hgf hbf
        clear hrb hbf hgf
        go_wp2_with fail
        go_ret
        exact ⟨_, rfl, by rw [HE.out]; exact EOwn.nil _ _, by rw [HE.out]; exact hTF.rd, hTF.kept⟩
      | false =>
        have hwd : IntKind.i64.wrap (d - 1) = d - 1 := by rw [IntKind.wrap_i64]; omega
        by_cases hd1 : d - 1 = 0
        · have HE : Hid (R = (l, s1)) := Lib.hid (by rw [hu1, if_neg (by simp), if_pos hd1])
          have t1 : (d - 1 == 0) = true := by simpa using hd1
          have t1' : decide (d - 1 = 0) = true := by simpa using hd1
          clear he1 hu1 hd1
          go_wp2_with fail
          go_ret
          exact ⟨_, rfl, by rw [HE.out]; exact hT2.own, by rw [HE.out]; exact hT2.rd, hT2.kept⟩
        · have HTN : Hid (R = treeS (zs.map Prod.fst) b f1 l (d - 1) false s1) := Lib.hid (by rw [hu1, if_neg (by simp), if_neg hd1])
          have t1 : (d - 1 == 0) = false := by simpa using hd1
          have t1' : decide (d - 1 = 0) = false := by simpa using hd1
          have HPN : Hid (s1.e = 0 → 0 ≤ s1.p ∧ s1.p ≤ bl ∧ (bl : Int) + 1 ≤ f1 + s1.p) := Lib.hid (fun _ => by omega)
          have hmN : mea gr bl w2 = bl + 2 - s1.p.toNat := by rw [mea_eq hT2.rd, if_pos he1]
          have HMN := Lib.hid hmN
          clear he1 hu1 hd1 hmN
          go_wp2_with fail
          go_roundw
          case rel => exact ⟨l, d - 1, false, s1, f1, rfl, rfl, HTN, HPN, by omega, by omega, hl4, hT2⟩
          case measure => rw [HMN.out, HM0.out]; omega
    have hu2 : R = (match (zs.map Prod.fst)[(v - 1).toNat]? with
        | none => ([], failS 12 s1)
        | some z => if 4000 ≤ l.length ∨ 32 < d then ([], failS 5 s1)
          else if z.kids = 1 then treeS (zs.map Prod.fst) b f1 (l ++ [⟨d, z.tag, (attsS b z.ps [] s1).1⟩]) (d + 1) true (attsS b z.ps [] s1).2
          else if d = 0 then (l ++ [⟨d, z.tag, (attsS b z.ps [] s1).1⟩], (attsS b z.ps [] s1).2)
          else treeS (zs.map Prod.fst) b f1 (l ++ [⟨d, z.tag, (attsS b z.ps [] s1).1⟩]) d false (attsS b z.ps [] s1).2) := by
      rw [HU.out, if_neg (fun h => h he1), if_neg hv]
    have v0 : (v == 0) = false := by simpa using hv
    have v0' : decide (v = 0) = false := by simpa using hv
    obtain ⟨vn, rfl⟩ : ∃ k : Nat, v = (k : Int) + 1 := ⟨(v - 1).toNat, by omega⟩
    rw [show ((vn : Int) + 1 - 1).toNat = vn by omega] at hu2
    by_cases hlen : (zl : Int) < (vn : Int) + 1
    case pos =>
      have t1 : decide ((zl : Int) < (vn : Int) + 1) = true := by simpa using hlen
      have HE : Hid (R = ([], failS 12 s1)) := Lib.hid (by rw [hu2, List.getElem?_eq_none (by rw [List.length_map, ← HZL.out]; omega)])
      clear hlen he1 hu2 hv
      have hrb := hT2.rd
      go_wp2_with fail
      refine (rFail_any gr x 12 s1 w2 hrb).mono ?_
      rintro en0 wf ⟨⟨vf, rfl⟩, hbf, hgf⟩
      have hTF := hT2.reader hgf hbf
      clear hrb hbf hgf
      go_wp2_with fail
      go_ret
      exact ⟨_, rfl, by rw [HE.out]; exact EOwn.nil _ _, by rw [HE.out]; exact hTF.rd, hTF.kept⟩
    have t1 : decide ((zl : Int) < (vn : Int) + 1) = false := by simpa using hlen
    have hvl : vn < zs.length := by rw [← HZL.out]; omega
    obtain ⟨A5, c5, hov⟩ := hT2.own.in_.form
    obtain ⟨nl, hnl⟩ : ∃ n, n = l.length := ⟨_, rfl⟩
    rw [← hnl] at hov hu2 hl4
    subst hov
    have HNL := Lib.hid hnl
    clear hnl
    rw [List.getElem?_map, List.getElem?_eq_getElem hvl] at hu2
    simp only [Option.map_some] at hu2
    by_cases hli : 4000 ≤ nl
    case pos =>
      have t2 : decide ((4000 : Int) ≤ (nl : Int)) = true := by simp; omega
      have HE : Hid (R = ([], failS 5 s1)) := Lib.hid (by rw [hu2, if_pos (.inl hli)])
      clear hli he1 hu2 hv hlen
      have hrb := hT2.rd
      go_wp2_with fail
      refine (rFail_any gr x 5 s1 w2 hrb).mono ?_
      rintro en0 wf ⟨⟨vf, rfl⟩, hbf, hgf⟩
      have hTF := hT2.reader hgf hbf
      clear hrb hbf hgf
      go_wp2_with fail
      go_ret
      exact ⟨_, rfl, by rw [HE.out]; exact EOwn.nil _ _, by rw [HE.out]; exact hTF.rd, hTF.kept⟩
    have t2 : decide ((4000 : Int) ≤ (nl : Int)) = false := by simp; omega
    have HLI : Hid (nl < 4000) := Lib.hid (by omega)
    by_cases hld : 32 < d
    case pos =>
      have t3 : decide (32 < d) = true := by simpa using hld
      have HE : Hid (R = ([], failS 5 s1)) := Lib.hid (by rw [hu2, if_pos (.inr hld)])
      clear hli hld he1 hu2 hv hlen
      have hrb := hT2.rd
      go_wp2_with fail
      refine (rFail_any gr x 5 s1 w2 hrb).mono ?_
      rintro en0 wf ⟨⟨vf, rfl⟩, hbf, hgf⟩
      have hTF := hT2.reader hgf hbf
      clear hrb hbf hgf
      go_wp2_with fail
      go_ret
      exact ⟨_, rfl, by rw [HE.out]; exact EOwn.nil _ _, by rw [HE.out]; exact hTF.rd, hTF.kept⟩
    have t3 : decide (32 < d) = false := by simpa using hld
    have HLD : Hid (d ≤ 32) := Lib.hid (by omega)
    rw [if_neg (fun h => h.elim hli hld)] at hu2
    have hSw := HS.out w2 hT2.kept
    obtain ⟨bz, oz, hAz, hrz⟩ := hSw.1.at_ (k := 3) (fun z hz => rfl) (by omega) hvl
    have HNI : Hid (∀ W, Kept w.heap.size [gr] w W → InI W zs[vn].2 (flatP zs[vn].1.ps)) := Lib.hid (fun W hW => (HS.out W hW).2 _ (List.getElem_mem hvl))
    have hps12 := HOK.out _ (List.getElem_mem hvl)
    have HU2 := Lib.hid hu2
    clear hu2 hSw HU
    generalize zs[vn] = z at *
    obtain ⟨z, zv⟩ := z
    dsimp only at HNI hps12 HU2 hrz
    obtain ⟨AN, cN, hzv, _⟩ := id (HNI.out w2 hT2.kept)
    obtain ⟨nn, hnn⟩ : ∃ n, n = (flatP z.ps).length := ⟨_, rfl⟩
    rw [← hnn] at hzv
    subst hzv
    obtain ⟨kn, hkn⟩ : ∃ k, k = z.ps.length := ⟨_, rfl⟩
    have HNN : Hid (nn = 2 * kn) := Lib.hid (by rw [hnn, flatP_len, hkn])
    have HNF := Lib.hid hnn
    have HKN := Lib.hid hkn
    rw [← hkn] at hps12
    clear hnn hkn hv hli hld hlen k0 k1 k2
    have hldz := psh_load hrz
    subst hAz
    have hwv : IntKind.i64.wrap ((vn : Int) + 1 - 1) = (vn : Int) := by rw [IntKind.wrap_i64]; omega
    have hwv2 : (vn : Int) + 1 - 1 = (vn : Int) := by omega
    have hvi : (vn : Int) < (zl : Int) := by rw [HZL.out]; omega
    obtain ⟨k0, k1, k2⟩ := blk3' hT2.rd
    obtain ⟨hst, hG9, hX9⟩ := box_new (P := Try.prog) w2 69 #[.int .i64 0, .int .i64 0, .slice none 0 0] #[.int .i64 z.tag, .int .i64 z.kids, .slice AN nn cN] sh_size rfl (by simp [Value.oneCell'])
    go_upto_region 21 with first | refine wpList_load_run rfl 69 (.tmp 52) rfl _ _ rfl hldz ?_ | refine wpList_store_run rfl 69 (.tmp 9) (.tmp 53) rfl _ _ _ rfl rfl hst ?_
    obtain ⟨g9, hg9⟩ : ∃ g, g = w2.heap.size := ⟨_, rfl⟩
    have hl9 : w2.heap.size ≤ g9 := by omega
    rw [← hg9] at hG9 hX9 ⊢
    generalize (w2.alloc (.cells #[.int .i64 0, .int .i64 0, .slice none 0 0] 69)).setRow g9 #[.int .i64 z.tag, .int .i64 z.kids, .slice AN nn cN] = w3 at *
    try dsimp only [Act.put]
    clear hst hldz hrz hg9 k0 k1 k2 hwv hwv2 t1 t2 t3 v0 v0'
    obtain ⟨q0, q1, q2⟩ := blk3 hG9
    obtain ⟨hst, hG10, hX10⟩ := box_new (P := Try.prog) w3 26 #[.int .i64 0, .int .i64 0, .slice none 0 0] #[.int .i64 d, .int .i64 z.tag, .slice none 0 0] en_size rfl (by simp [Value.oneCell'])
    go_upto_region 22 with first | refine wpList_store_run rfl 26 (.tmp 10) (.tmp 57) rfl _ _ _ rfl rfl hst ?_
    obtain ⟨g10, hg10⟩ : ∃ g, g = w3.heap.size := ⟨_, rfl⟩
    have hl10 : w2.heap.size ≤ g10 := by have := hX9.size; omega
    rw [← hg10] at hG10 hX10 ⊢
    generalize (w3.alloc (.cells #[.int .i64 0, .int .i64 0, .slice none 0 0] 26)).setRow g10 #[.int .i64 d, .int .i64 z.tag, .slice none 0 0] = w4 at *
    try dsimp only [Act.put]
    have hI0 : TI w2 gr g9 g10 x s1 #[.int .i64 z.tag, .int .i64 z.kids, .slice AN nn cN] #[.int .i64 d, .int .i64 z.tag, .slice none 0 0] (.slice none 0 0) [] w4 := ⟨(hX9.trans hX10).heap hT2.rd, hX10.heap hG9, hG10, OwnR.nil _, hl9, hl10, Kept.of_ext (hX9.trans hX10) (Nat.le_refl _)⟩
    clear hst hG9 hG10 hX9 hX10 hg10 q0 q1 q2 hl9 hl10
    have HE1 := Lib.hid he1
    clear he1
    go_wp2_with fail
    go_loopw [11] (fun i wr => ∃ (k im : Nat) (l2 : List Att) (s2 : RS18) (y2 : Value), i = .int .i64 (im : Int) ∧ Hid (im = 2 * k) ∧ k ≤ kn ∧ Hid (l2.length = k) ∧ Hid (attsS b z.ps [] s1 = attsS b (z.ps.drop k) l2 s2) ∧ TI w2 gr g9 g10 x s2 #[.int .i64 z.tag, .int .i64 z.kids, .slice AN nn cN] #[.int .i64 d, .int .i64 z.tag, y2] y2 l2 wr) (fun i _ => 30 - (intOf i).toNat)
    case atStart => exact ⟨0, 0, [], s1, _, rfl, Lib.hid rfl, by omega, Lib.hid rfl, Lib.hid (by rw [List.drop_zero]), hI0⟩
    case round =>
      clear hI0
      obtain ⟨k, im, l2, s2, y2, rfl, HIM, hk, HL2, HAS, hI⟩ := hrel
      obtain ⟨wy, rfl⟩ : ∃ W : World, W = wr := ⟨_, rfl⟩
      obtain ⟨A2, c2, hy2, _⟩ := id hI.at_.inR
      obtain ⟨n2, hn2⟩ : ∃ n, n = l2.length := ⟨_, rfl⟩
      rw [← hn2] at hy2
      subst hy2
      have hn12 : n2 ≤ 12 := by rw [hn2, HL2.out]; omega
      have HN2 := Lib.hid hn2
      clear hn2
      go_upto_region 23 with fail
      go_cut [69] (fun sl wx => ∃ d : Bool, sl = .bool d ∧ (d = true ↔ im < nn ∧ s2.e = 0) ∧ wx = wy)
      case first =>
        obtain ⟨k0, k1, k2⟩ := blk3' hI.rd
        obtain ⟨q0, q1, q2⟩ := blk3 hI.b9
        by_cases h1 : im < nn
        · have d1 : decide (im < nn) = true := by simpa using h1
          by_cases h2 : s2.e = 0
          · have d2 : (s2.e == 0) = true := by simpa using h2
            have d2' : decide (s2.e = 0) = true := by simpa using h2
            have HQ : Hid (im < nn ∧ s2.e = 0) := Lib.hid ⟨h1, h2⟩
            clear h1 h2
            go_wp2_with fail
            go_meet
            exact ⟨true, rfl, ⟨fun _ => HQ.out, fun _ => rfl⟩, rfl⟩
          · have d2 : (s2.e == 0) = false := by simpa using h2
            have d2' : decide (s2.e = 0) = false := by simpa using h2
            have HQ : Hid (¬ (im < nn ∧ s2.e = 0)) := Lib.hid (fun h => h2 h.2)
            clear h1 h2
            go_wp2_with fail
            go_meet
            exact ⟨false, rfl, ⟨fun h => (by cases h), fun h => absurd h HQ.out⟩, rfl⟩
        · have d1 : decide (im < nn) = false := by simpa using h1
          have HQ : Hid (¬ (im < nn ∧ s2.e = 0)) := Lib.hid (fun h => h1 h.1)
          clear h1
          go_wp2_with fail
          go_meet
          exact ⟨false, rfl, ⟨fun h => (by cases h), fun h => absurd h HQ.out⟩, rfl⟩
      obtain ⟨db, rfl, hdb, hwe⟩ := hcut
      subst hwe
      obtain ⟨wy, rfl⟩ : ∃ W : World, W = wc := ⟨_, rfl⟩
      cases db with
      | true =>
        obtain ⟨him, hse⟩ := hdb.1 rfl
        clear hdb
        have hkk : k < z.ps.length := by rw [← HKN.out]; have := HIM.out; have := HNN.out; omega
        have HA2 : Hid (attsS b z.ps [] s1 = attsS b (z.ps.drop (k + 1)) (l2 ++ [(attS b z.ps[k].1 z.ps[k].2 s2).1]) (attS b z.ps[k].1 z.ps[k].2 s2).2) := Lib.hid (by
          rw [HAS.out, List.drop_eq_getElem_cons hkk, attsS, if_neg (fun h => h hse)])
        have hil1 : im < (flatP z.ps).length := by rw [← HNF.out]; exact him
        have hil2 : im + 1 < (flatP z.ps).length := by have := HIM.out; have := HNN.out; rw [← HNF.out]; omega
        have hgp := flatP_get z.ps k hkk
        rw [← HIM.out, List.getElem?_eq_getElem hil1, List.getElem?_eq_getElem hil2] at hgp
        obtain ⟨ga, gb⟩ := hgp
        have hg1 : (flatP z.ps)[im] = z.ps[k].1 := by injection ga
        have hg2 : (flatP z.ps)[im + 1] = z.ps[k].2 := by injection gb
        clear ga gb
        obtain ⟨A', c', e', _, hrd⟩ := HNI.out w2 hT2.kept
        have eA : AN = A' := by injection e'
        subst eA
        clear e'
        obtain ⟨bn, on, hAN, hcx⟩ := hrd.at2 (k := im) (by simpa using hil1)
        clear hcx
        have HNC : Hid (∀ W, Kept w.heap.size [gr] w W → W.cell? ⟨bn, on + im, none⟩ = some (.int .i64 z.ps[k].1) ∧ W.cell? ⟨bn, on + (im + 1), none⟩ = some (.int .i64 z.ps[k].2)) := Lib.hid (fun W hW => by
          obtain ⟨A', c', e', _, hrd⟩ := HNI.out W hW
          have eA : AN = A' := by injection e'
          subst eA
          obtain ⟨b1, o1, h1, h2⟩ := hrd.at2 (k := im) (by simpa using hil1)
          obtain ⟨b2, o2, h3, h4⟩ := hrd.at2 (k := im + 1) (by simpa using hil2)
          rw [hAN] at h1 h3
          injection h1 with h1
          injection h1 with h1a h1b
          injection h3 with h3
          injection h3 with h3a h3b
          subst h1a h1b h3a h3b
          rw [List.getElem_map, hg1] at h2
          rw [List.getElem_map, hg2] at h4
          exact ⟨h2, h4⟩)
        have HKW : Hid (∀ W, wy.grownBy W (some gr) → Kept w.heap.size [gr] w W) := Lib.hid (fun W hW => (hT2.kept.trans (hI.kept.low' hT2.kept.size)).trans (Kept.of_grown hW (hT2.kept.trans (hI.kept.low' hT2.kept.size)).size (fun k e => by cases e; exact .inr (by simp))))
        have ne9 : (some g9 : Option Nat) ≠ some gr := fun e => hI.rd.ne_any hI.b9 (by decide) (by injection e with e; exact e.symm)
        have ne10 : (some g10 : Option Nat) ≠ some gr := fun e => hI.rd.ne_any hI.b10 (by decide) (by injection e with e; exact e.symm)
        generalize z.ps[k].1 = pa at *
        generalize z.ps[k].2 = pb at *
        have him' : (im : Int) < (nn : Int) := by omega
        obtain ⟨im1, him1⟩ : ∃ n, n = im + 1 := ⟨_, rfl⟩
        have hw1 : IntKind.i64.wrap ((im : Int) + 1) = (im1 : Int) := by have := HIM.out; rw [IntKind.wrap_i64]; omega
        have him1' : (im1 : Int) < (nn : Int) := by have := HIM.out; have := HNN.out; omega
        rw [← him1] at HNC
        clear him1 hkk hil1 hil2 hg1 hg2 hrd
        have hIR := hI
        rw [hAN] at hIR
        have HAN := Lib.hid hAN
        clear hAN
        go_upto_region 25 with fail
        refine wp_region_Z #[true, true, true, true, true, true, true, true, true, true, true, true, true, true, true, true, false, false, false] (some gr) 16 3 (by kernel_rfl) rfl ?_
        refine wpZ_v 0 (.pointer (some ⟨g10, 2, none⟩)) rfl rfl (by kernel_rfl) (by kernel_rfl) (by kernel_rfl) (fun _ _ _ _ h => h) (by kernel_rfl) rfl (by rfl) (fun W' hW => by
          skip
          go_simp) ?_
        simp only [List.setIfInBounds_toArray, List.set_cons_zero, List.set_cons_succ]
        refine wpZ_v 1 (.slice A2 n2 c2) rfl rfl (by kernel_rfl) (by kernel_rfl) (by kernel_rfl) (fun _ _ _ _ h => h) (by kernel_rfl) rfl (by rfl) (fun W' hW => by
          have hgw := gtrans (((Ext.refl wy).drew).grownBy (some gr)) hW
          have z := blk_at (blk_grown hIR.b10 hgw ne10) 2 _ rfl
          go_simp) ?_
        simp only [List.setIfInBounds_toArray, List.set_cons_zero, List.set_cons_succ]
        refine wpZ_v 2 (.pointer (some ⟨gr, 0, none⟩)) rfl rfl (by kernel_rfl) (by kernel_rfl) (by kernel_rfl) (fun _ _ _ _ h => h) (by kernel_rfl) rfl (by rfl) (fun W' hW => by
          skip
          go_simp) ?_
        simp only [List.setIfInBounds_toArray, List.set_cons_zero, List.set_cons_succ]
        refine wpZ_v 3 (.pointer (some ⟨g9, 2, none⟩)) rfl rfl (by kernel_rfl) (by kernel_rfl) (by kernel_rfl) (fun _ _ _ _ h => h) (by kernel_rfl) rfl (by rfl) (fun W' hW => by
          skip
          go_simp) ?_
        simp only [List.setIfInBounds_toArray, List.set_cons_zero, List.set_cons_succ]
        refine wpZ_v 4 (.slice (some ⟨bn, on, none⟩) nn cN) rfl rfl (by kernel_rfl) (by kernel_rfl) (by kernel_rfl) (fun _ _ _ _ h => h) (by kernel_rfl) rfl (by rfl) (fun W' hW => by
          have hgw := gtrans (((Ext.refl wy).drew).grownBy (some gr)) hW
          have z := blk_at (blk_grown hIR.b9 hgw ne9) 2 _ rfl
          go_simp) ?_
        simp only [List.setIfInBounds_toArray, List.set_cons_zero, List.set_cons_succ]
        refine wpZ_v 5 (.int .i64 (im : Int)) rfl rfl (by kernel_rfl) (by kernel_rfl) (by kernel_rfl) (fun _ _ _ _ h => h) (by kernel_rfl) rfl (by rfl) (fun W' hW => by
          skip
          go_simp) ?_
        simp only [List.setIfInBounds_toArray, List.set_cons_zero, List.set_cons_succ]
        refine wpZ_v 6 (.pointer (some ⟨bn, on + im, none⟩)) rfl rfl (by kernel_rfl) (by kernel_rfl) (by kernel_rfl) (fun _ _ _ _ h => h) (by kernel_rfl) rfl (by rfl) (fun W' hW => by
          skip
          go_simp) ?_
        simp only [List.setIfInBounds_toArray, List.set_cons_zero, List.set_cons_succ]
        refine wpZ_v 7 (.int .i64 pa) rfl rfl (by kernel_rfl) (by kernel_rfl) (by kernel_rfl) (fun _ _ _ _ h => h) (by kernel_rfl) rfl (by rfl) (fun W' hW => by
          have hgw := gtrans (((Ext.refl wy).drew).grownBy (some gr)) hW
          have z := (HNC.out _ (HKW.out _ hgw)).1
          go_simp) ?_
        simp only [List.setIfInBounds_toArray, List.set_cons_zero, List.set_cons_succ]
        refine wpZ_v 8 (.pointer (some ⟨g9, 2, none⟩)) rfl rfl (by kernel_rfl) (by kernel_rfl) (by kernel_rfl) (fun _ _ _ _ h => h) (by kernel_rfl) rfl (by rfl) (fun W' hW => by
          skip
          go_simp) ?_
        simp only [List.setIfInBounds_toArray, List.set_cons_zero, List.set_cons_succ]
        refine wpZ_v 9 (.slice (some ⟨bn, on, none⟩) nn cN) rfl rfl (by kernel_rfl) (by kernel_rfl) (by kernel_rfl) (fun _ _ _ _ h => h) (by kernel_rfl) rfl (by rfl) (fun W' hW => by
          have hgw := gtrans (((Ext.refl wy).drew).grownBy (some gr)) hW
          have z := blk_at (blk_grown hIR.b9 hgw ne9) 2 _ rfl
          go_simp) ?_
        simp only [List.setIfInBounds_toArray, List.set_cons_zero, List.set_cons_succ]
        refine wpZ_v 10 (.int .i64 (im : Int)) rfl rfl (by kernel_rfl) (by kernel_rfl) (by kernel_rfl) (fun _ _ _ _ h => h) (by kernel_rfl) rfl (by rfl) (fun W' hW => by
          skip
          go_simp) ?_
        simp only [List.setIfInBounds_toArray, List.set_cons_zero, List.set_cons_succ]
        refine wpZ_v 11 (.int .i64 (im1 : Int)) rfl rfl (by kernel_rfl) (by kernel_rfl) (by kernel_rfl) (fun _ _ _ _ h => h) (by kernel_rfl) rfl (by rfl) (fun W' hW => by
          skip
          go_simp) ?_
        simp only [List.setIfInBounds_toArray, List.set_cons_zero, List.set_cons_succ]
        refine wpZ_v 12 (.pointer (some ⟨bn, on + im1, none⟩)) rfl rfl (by kernel_rfl) (by kernel_rfl) (by kernel_rfl) (fun _ _ _ _ h => h) (by kernel_rfl) rfl (by rfl) (fun W' hW => by
          skip
          go_simp) ?_
        simp only [List.setIfInBounds_toArray, List.set_cons_zero, List.set_cons_succ]
        refine wpZ_v 13 (.int .i64 pb) rfl rfl (by kernel_rfl) (by kernel_rfl) (by kernel_rfl) (fun _ _ _ _ h => h) (by kernel_rfl) rfl (by rfl) (fun W' hW => by
          have hgw := gtrans (((Ext.refl wy).drew).grownBy (some gr)) hW
          have z := (HNC.out _ (HKW.out _ hgw)).2
          go_simp) ?_
        simp only [List.setIfInBounds_toArray, List.set_cons_zero, List.set_cons_succ]
        refine wpZ_c 14 55 #[.pointer (some ⟨gr, 0, none⟩), .int .i64 pa, .int .i64 pb] rfl rfl (by kernel_rfl) rfl (by rfl) (fun W => by go_simp) ?_
        intro W1 hW1
        have hX1 := ((Ext.refl wy).drew).trans hW1
        have hI1 := hI.ext hX1
        have hbl6'' : b.length ≤ 1000000 := by rw [← HBL.out]; omega
        have hkk1 : Kept w.heap.size [gr] w W1 := hT2.kept.trans (hI1.kept.low' hT2.kept.size)
        have hst1 : St [gr] W1 (fun W => InB W x b) := fun W hW => HX.out W (hkk1.trans (hW.low' hkk1.size))
        refine (readAttr_any gr x b s2 pa pb W1 hst1 hI1.rd hbl6'').mono ?_
        rintro en we ⟨rfl, hb2, hk2⟩
        generalize attS b pa pb s2 = r at *
        obtain ⟨a, s3⟩ := r
        dsimp only at hb2 HA2 ⊢
        refine ⟨_, rfl, hk2.g1, ?_⟩
        simp only [List.setIfInBounds_toArray, List.set_cons_zero, List.set_cons_succ]
        have hI2 := hI1.call hk2 hb2
        refine wpZ_m 15 rfl rfl (by kernel_rfl) rfl (by rfl) fun W2 hW2 => ?_
        have hA := (Ext.refl W2).alloc (.cells #[.int .i64 a.name, .int .i64 a.form, .int .i64 a.value, .string a.text] 40)
        refine ⟨.slice (some ⟨W2.heap.size, 0, none⟩) 1 1, W2.alloc (.cells #[.int .i64 a.name, .int .i64 a.form, .int .i64 a.value, .string a.text] 40), by go_simp, hA.grownBy _, ?_⟩
        simp only [List.setIfInBounds_toArray, List.set_cons_zero, List.set_cons_succ]
        have hin : InR attCells (W2.alloc (.cells #[.int .i64 a.name, .int .i64 a.form, .int .i64 a.value, .string a.text] 40)) (.slice (some ⟨W2.heap.size, 0, none⟩) 1 1) [a] := (OwnR_one (f := attCells) W2 a rfl 40).inR
        have hX3 := hW2.trans hA
        generalize W2.alloc (.cells #[.int .i64 a.name, .int .i64 a.form, .int .i64 a.value, .string a.text] 40) = W3 at *
        generalize W2.heap.size = gn at *
        refine wpZ_end rfl fun W6 hW6 => tail_seq 16 rfl (by kernel_rfl) ?_
        simp only [List.drop_succ_cons, List.drop_zero]
        have hX6 := hX3.trans hW6
        have hI6 := hI2.ext hX6
        have hat6 := hI6.at_
        have hin6 := hin.ext hW6
        have hsz6 := hI6.kept.size
        clear hW1 hX1 hI1 hkk1 hst1 hb2 hk2 hI2 hW2 hA hin hX3 hW6 hX6 hI hIR
        go_wp2_with (at_builtin; go_must (refine wpList_appendR elem_at rfl (.tmp 73) (.tmp 87) rfl w2.heap.size _ l2 rfl hat6 _ [a] rfl hin6 (fun _ _ => rfl) (fun b hb u hu => by simp only [List.mem_singleton] at hb; subst hb; simp only [attCells, List.mem_cons, List.not_mem_nil, or_false] at hu; rcases hu with rfl | rfl | rfl | rfl <;> rfl) (by rw [← HN2.out]; simp only [List.length_cons, List.length_nil]; omega) (by omega) hsz6 (Hold.out ?_)))
        refine Hold.mk fun vC wC hoC hgC => ?_
        have hI9 := hI6.grow hoC hgC
        obtain ⟨A9, c9, hv9, _⟩ := id hoC.inR
        obtain ⟨n9, hn9⟩ : ∃ n, n = (l2 ++ [a]).length := ⟨_, rfl⟩
        rw [← hn9] at hv9
        subst hv9
        clear hn9
        have f2 := blk_free hI9.b10 2
        obtain ⟨q0, q1, q2⟩ := blk3 hI9.b10
        have hlt := heap_lt hI9.b10
        clear hI6 hat6 hin6 hsz6 hoC hgC
        go_wp2_with fail
        refine NoPanic.normal ?_
        have hIn := hI9.put 2 (.slice A9 n9 c9)
        simp only [List.setIfInBounds_toArray, List.set_cons_succ, List.set_cons_zero] at hIn
        clear f2 q0 q1 q2 hlt hI9
        generalize wC.setCell ⟨g10, 2, none⟩ (.slice A9 n9 c9) = wn at *
        have hw2 : IntKind.i64.wrap ((im : Int) + 2) = ((im + 2 : Nat) : Int) := by have := HIM.out; rw [IntKind.wrap_i64]; omega
        have HIM2 : Hid (im + 2 = 2 * (k + 1)) := Lib.hid (by have := HIM.out; omega)
        have HL3 : Hid ((l2 ++ [a]).length = k + 1) := Lib.hid (by rw [List.length_append, HL2.out]; rfl)
        have hk1 : k + 1 ≤ kn := by have := HIM.out; have := HNN.out; omega
        have him30 : im < 26 := by have := HIM.out; omega
        go_wp2_with fail
        go_roundw
        case rel => exact ⟨k + 1, im + 2, l2 ++ [a], s3, _, by first | (with_reducible rfl) | go_num, HIM2, hk1, HL3, HA2, hIn⟩
        case measure => simp [intOf]; omega
      | false =>
        have HAE : Hid (attsS b z.ps [] s1 = (l2, s2)) := Lib.hid (by
          rw [HAS.out]
          by_cases h : s2.e = 0
          · have h2 : ¬ im < nn := fun h3 => by have := hdb.2 ⟨h3, h⟩; cases this
            have h3 : k = kn := by have := HIM.out; have := HNN.out; omega
            rw [List.drop_of_length_le (by rw [← HKN.out]; omega)]
            rfl
          · exact attsS_dead h)
        have HPA : Hid (s2.e = 0 → s1.p ≤ s2.p ∧ s2.p ≤ bl) := Lib.hid (fun h => by
          have h1 : (attsS b z.ps [] s1).2.e = 0 := by rw [HAE.out]; exact h
          have h2 := attsS_pos h1 (fun _ => by rw [← HBL.out]; exact hpb1)
          rw [HAE.out] at h2
          rw [HBL.out]
          exact h2.2)
        obtain ⟨ent, hent⟩ : ∃ e : Ent, e = ⟨d, z.tag, l2⟩ := ⟨_, rfl⟩
        have HU3 : Hid (R = if z.kids = 1 then treeS (zs.map Prod.fst) b f1 (l ++ [ent]) (d + 1) true s2
          else if d = 0 then (l ++ [ent], s2) else treeS (zs.map Prod.fst) b f1 (l ++ [ent]) d false s2) := Lib.hid (by
          rw [HU2.out, HAE.out, hent])
        clear hdb
        have hTR : TR w gr x s2 (.slice A5 nl c5) l wy := hT2.call hI.kept hI.rd
        obtain ⟨zt, hz1, hz2, hz3⟩ := id hTR.own
        have HZ1 := Lib.hid hz1
        have HZ3 := Lib.hid hz3
        have hztl : nl = zt.length := by rw [HNL.out, ← hz1, List.length_map]
        have HZTL := Lib.hid hztl
        clear hz1 hz3 hztl
        have hldt := run_loadAt_blk (P := Try.prog) wy g10 26 26 _ (0, 0) _ hI.b10 Try.underlying26 rfl en_size
        have hA5 := (Ext.refl wy).alloc (.cells #[.int .i64 d, .int .i64 z.tag, .slice A2 n2 c2] 26)
        have hin5 : InR entCells (wy.alloc (.cells #[.int .i64 d, .int .i64 z.tag, .slice A2 n2 c2] 26)) (.slice (some ⟨wy.heap.size, 0, none⟩) 1 1) [(ent, .slice A2 n2 c2)] := by rw [hent]; exact (OwnR_one (f := entCells) wy ((⟨d, z.tag, l2⟩ : Ent), .slice A2 n2 c2) rfl 26).inR
        have hone : ∀ z ∈ [(ent, (Value.slice A2 n2 c2))], ∀ u ∈ entCells z, u.oneCell' = true := fun z hz u hu => by
          simp only [List.mem_singleton] at hz
          subst hz
          simp only [entCells, List.mem_cons, List.not_mem_nil, or_false] at hu
          rcases hu with rfl | rfl | rfl <;> rfl
        have HAT : Hid (ent.attrs = l2) := Lib.hid (by rw [hent])
        have hza := hz2.ext hA5
        have hTA := hTR.ext hA5
        have hszd := hTA.kept.size
        have owna := (hI.at_.ext hA5).low hT2.kept.size
        have hb9a := hA5.heap hI.b9
        clear hent hz2 hTR
        go_wp2_with first | refine wpList_load_run rfl 26 (.tmp 10) rfl _ _ rfl hldt ?_ | refine wpList_rowOne elem_en rfl (.tmp 91) rfl #[.int .i64 d, .int .i64 z.tag, .slice A2 n2 c2] rfl rfl (by omega) ?_ | (at_builtin; go_must (refine wpList_appendR elem_en rfl (.tmp 90) (.tmp 92) rfl w.heap.size _ zt rfl hza _ [(ent, .slice A2 n2 c2)] rfl hin5 (fun _ _ => rfl) hone (by rw [← HZTL.out]; simp only [List.length_cons, List.length_nil]; omega) (by omega) hszd (Hold.out ?_)))
        refine Hold.mk fun v9 w9 ho9 hg9 => ?_
        have hT9 : TR w gr x s2 v9 (l ++ [ent]) w9 := by
          refine ⟨blk_grown hTA.rd hg9.grown (hza.ne_blk hTA.rd (by decide)).symm, ⟨zt ++ [(ent, .slice A2 n2 c2)], by rw [List.map_append, HZ1.out]; rfl, ho9, fun z hz => ?_⟩, hTA.kept.trans (Kept.of_grown hg9.grown hTA.kept.size (fun k e => .inl (hza.ge k e)))⟩
          rcases List.mem_append.1 hz with hz | hz
          · have h1 := (HZ3.out z hz).ext hA5
            exact h1.kept hg9.grown (row_ne h1 hza (by decide))
          · simp only [List.mem_singleton] at hz
            subst hz
            have h1 : OwnR attCells 4 40 w.heap.size w9 (.slice A2 n2 c2) l2 := owna.kept hg9.grown (row_ne owna hza (by decide))
            rw [← HAT.out] at h1
            exact h1
        have hb9b := blk_grown hb9a hg9.grown (hza.ne_blk hb9a (by decide)).symm
        obtain ⟨q0, q1, q2⟩ := blk3 hb9b
        clear hldt hA5 hin5 hone hza hTA hszd owna hb9a ho9 hg9 hI
        have HPN : Hid (s2.e = 0 → 0 ≤ s2.p ∧ s2.p ≤ bl ∧ (bl : Int) + 1 ≤ f1 + s2.p) := Lib.hid (fun h => by have := HPA.out h; omega)
        have HME : Hid (mea gr bl w9 < mea gr bl wo) := Lib.hid (by
          rw [mea_eq hT9.rd, HM0.out]
          split
          · rename_i h
            have := HPA.out h
            omega
          · omega)
        have hlen9 : (l ++ [ent]).length ≤ 4000 := by have := HLI.out; rw [List.length_append, ← HNL.out]; simp only [List.length_cons, List.length_nil]; omega
        by_cases hzk : z.kids = 1
        · have u1 : (z.kids == 1) = true := by simpa using hzk
          have u1' : decide (z.kids = 1) = true := by simpa using hzk
          have hwd : IntKind.i64.wrap (d + 1) = d + 1 := by rw [IntKind.wrap_i64]; omega
          have HTN : Hid (R = treeS (zs.map Prod.fst) b f1 (l ++ [ent]) (d + 1) true s2) := Lib.hid (by rw [HU3.out, if_pos hzk])
          clear hzk
          go_wp2_with fail
          go_roundw
          case rel => exact ⟨l ++ [ent], d + 1, true, s2, f1, rfl, rfl, HTN, HPN, by omega, by have := HLD.out; omega, hlen9, hT9⟩
          case measure => exact HME.out
        · have u1 : (z.kids == 1) = false := by simpa using hzk
          have u1' : decide (z.kids = 1) = false := by simpa using hzk
          by_cases hdz : d = 0
          · have u2 : (d == 0) = true := by simpa using hdz
            have u2' : decide (d = 0) = true := by simpa using hdz
            have HE : Hid (R = (l ++ [ent], s2)) := Lib.hid (by rw [HU3.out, if_neg hzk, if_pos hdz])
            clear hzk hdz
            go_wp2_with fail
            go_ret
            exact ⟨_, rfl, by rw [HE.out]; exact hT9.own, by rw [HE.out]; exact hT9.rd, hT9.kept⟩
          · have u2 : (d == 0) = false := by simpa using hdz
            have u2' : decide (d = 0) = false := by simpa using hdz
            have HTN : Hid (R = treeS (zs.map Prod.fst) b f1 (l ++ [ent]) d false s2) := Lib.hid (by rw [HU3.out, if_neg hzk, if_neg hdz])
            clear hzk hdz
            go_wp2_with fail
            go_roundw
            case rel => exact ⟨l ++ [ent], d, false, s2, f1, rfl, rfl, HTN, HPN, by omega, by omega, hlen9, hT9⟩
            case measure => exact HME.out
end Go.Proofs.Ytopanbcodfkedaa
