/- The contract of the reference's Decode. -/
import Derived.Test.YtpngmnfjefplkaaPacketJ
import Derived.Test.YtpngmnfjefplkaaRegion3
import Derived.Test.YtpngmnfjefplkaaWireE
namespace Go.Proofs.Ytpngmnfjefplkaa
open Go.RowKit
set_option linter.unusedVariables false

theorem refSum_still (x : Value) (l : List UInt8) (w : World) (hx : InB w x l) (hl : l.length ≤ 4294967296) :
    Calls Try.prog 52 #[x] w fun e w' => e = .returned (.int .i64 (crcL 65535 l : Int)) ∧ w' = w :=
  (refSum_any x l w hx hl).mono fun _ _ h => ⟨h.1, h.2.symm⟩

/-- the boxes of the result, of the packet and of the numbers -/
structure RB (w W : World) (gp gn : Nat) (k : Array Value) (l : List UInt8) (j : Nat) : Prop where
  res : W.heap[w.heap.size]? = some (.cells #[.int .i64 0, .int .i64 0, .int .i64 0, .int .i64 0, .int .i64 0, .slice none 0 0] 47 (0, 0))
  pkt : W.heap[gp]? = some (.cells k 47 (0, 0))
  num : W.heap[gn]? = some (.cells #[ncell l j 0, ncell l j 1, ncell l j 2, ncell l j 3, ncell l j 4] 118 (0, 0))
  ext : Ext w W
  lt : w.heap.size < gp ∧ gp < gn
theorem RB.drewN {w W : World} {gp gn : Nat} {k : Array Value} {l : List UInt8} {j : Nat} (h : RB w W gp gn k l j) (n : Nat) : RB w (W.drewN n) gp gn k l j := ⟨h.res, h.pkt, h.num, h.ext.drewN n, h.lt⟩
theorem RB.drew {w W : World} {gp gn : Nat} {k : Array Value} {l : List UInt8} {j : Nat} (h : RB w W gp gn k l j) : RB w W.drew gp gn k l j := ⟨h.res, h.pkt, h.num, h.ext.drew, h.lt⟩
theorem RB.step {w W : World} {gp gn : Nat} {k : Array Value} {l : List UInt8} {j : Nat} (h : RB w W gp gn k l j) (hj : j < 5) : RB w (W.setCell ⟨gn, j, none⟩ (.int .i64 (val l j))) gp gn k l (j + 1) := by
  have hlt := h.lt
  refine ⟨blk_far h.res (by show w.heap.size ≠ gn; omega) _, blk_far h.pkt (by show gp ≠ gn; omega) _, ?_, h.ext.setCell (by show w.heap.size ≤ gn; omega) _, h.lt⟩
  have := blk_set h.num j (.int .i64 (val l j))
  rw [this]
  rcases (show j = 0 ∨ j = 1 ∨ j = 2 ∨ j = 3 ∨ j = 4 by omega) with rfl | rfl | rfl | rfl | rfl <;> simp [ncell]
theorem RB.grow {w W W' : World} {gp gn : Nat} {k : Array Value} {l : List UInt8} {j : Nat} (h : RB w W gp gn k l j) (he : Ext W W') : RB w W' gp gn k l j := ⟨he.heap h.res, he.heap h.pkt, he.heap h.num, h.ext.trans he, h.lt⟩
theorem RB.put {w W : World} {gp gn : Nat} {k : Array Value} {l : List UInt8} {j : Nat} (h : RB w W gp gn k l j) (i : Nat) (v : Value) : RB w (W.setCell ⟨gp, i, none⟩ v) gp gn (k.setIfInBounds i v) l j := by
  have hlt := h.lt
  exact ⟨blk_far h.res (by show w.heap.size ≠ gp; omega) _, blk_set h.pkt i v, blk_far h.num (by show gn ≠ gp; omega) _, h.ext.setCell (by show w.heap.size ≤ gp; omega) _, h.lt⟩

set_option maxHeartbeats 2000000 in
set_option maxRecDepth 100000 in
theorem refDecode_any (x : Value) (b : List UInt8) (w : World) (hx : InB w x b) (hb : b.length ≤ 9223372036854775807) :
    Calls Try.prog 54 #[x] w (DecPost b w) := by
  have hX := hx
  obtain ⟨A, c, rfl, hcap, hr⟩ := hx
  go_enter Try.func54, Try.ntmps54
  go_upto_region 1 with fail
  obtain ⟨W, hW, hE, hres⟩ : ∃ W, W = w.alloc (.cells #[.int .i64 0, .int .i64 0, .int .i64 0, .int .i64 0, .int .i64 0, .slice none 0 0] 47) ∧ Ext w W ∧ W.heap[w.heap.size]? = some (.cells #[.int .i64 0, .int .i64 0, .int .i64 0, .int .i64 0, .int .i64 0, .slice none 0 0] 47 (0, 0)) := ⟨_, rfl, (Ext.refl w).alloc _, heap_alloc_new w _⟩
  rw [← hW]
  clear hW
  by_cases h1 : 6060 < b.length
  · have t1 : decide ((6060 : Int) < (b.length : Int)) = true := by simp; omega
    have h1' : (6060 : Int) < (b.length : Int) := by omega
    obtain ⟨r0, r1, r2, r3, r4, r5⟩ := blk6 hres
    obtain ⟨g0, g1, g2, g3, g4, g5⟩ := blk6f hres
    go_wp2
    refine bodyPost_ret (v := .tuple #[.agg #[.int .i64 0, .int .i64 0, .int .i64 0, .int .i64 0, .int .i64 0, .slice none 0 0], .int .i64 5]) (by simp [results, Try.results54, go_sem, r0, r1, r2, r3, r4, r5]) rfl ?_
    exact ⟨_, pk0, _, rfl, .inl ⟨h1, rfl, rfl⟩, ⟨_, rfl, OwnV.nil _⟩, (((((hE.setCell (p := ⟨w.heap.size, 0, none⟩) (Nat.le_refl _) _).setCell (p := ⟨w.heap.size, 1, none⟩) (Nat.le_refl _) _).setCell (p := ⟨w.heap.size, 2, none⟩) (Nat.le_refl _) _).setCell (p := ⟨w.heap.size, 3, none⟩) (Nat.le_refl _) _).setCell (p := ⟨w.heap.size, 4, none⟩) (Nat.le_refl _) _).setCell (p := ⟨w.heap.size, 5, none⟩) (Nat.le_refl _) _⟩
  · have t1 : decide ((6060 : Int) < (b.length : Int)) = false := by simp; omega
    have h1' : ¬ (6060 : Int) < (b.length : Int) := by omega
    by_cases h3 : b.length < 3
    · have t2 : decide ((b.length : Int) - 2 < 1) = true := by simp; omega
      go_wp2_with fail
      go_quiet (fail)
      have hres1 : (W.drewN nq).heap[w.heap.size]? = _ := hres
      have hE1 := hE.drewN nq
      clear hres hE
      generalize W.drewN nq = W1 at *
      obtain ⟨r0, r1, r2, r3, r4, r5⟩ := blk6 hres1
      obtain ⟨g0, g1, g2, g3, g4, g5⟩ := blk6f hres1
      go_wp2
      refine bodyPost_ret (v := .tuple #[.agg #[.int .i64 0, .int .i64 0, .int .i64 0, .int .i64 0, .int .i64 0, .slice none 0 0], .int .i64 28]) (by simp [results, Try.results54, go_sem, r0, r1, r2, r3, r4, r5]) rfl ?_
      exact ⟨_, pk0, _, rfl, .inr (.inl ⟨by omega, .inl h3, rfl, rfl⟩), ⟨_, rfl, OwnV.nil _⟩, (((((hE1.setCell (p := ⟨w.heap.size, 0, none⟩) (Nat.le_refl _) _).setCell (p := ⟨w.heap.size, 1, none⟩) (Nat.le_refl _) _).setCell (p := ⟨w.heap.size, 2, none⟩) (Nat.le_refl _) _).setCell (p := ⟨w.heap.size, 3, none⟩) (Nat.le_refl _) _).setCell (p := ⟨w.heap.size, 4, none⟩) (Nat.le_refl _) _).setCell (p := ⟨w.heap.size, 5, none⟩) (Nat.le_refl _) _⟩
    · obtain ⟨n, hn⟩ : ∃ n : Nat, b.length = n + 2 := ⟨b.length - 2, by omega⟩
      have HN := Lib.hid hn
      have hn2 : n < b.length := by omega
      have hn3 : n + 1 < b.length := by omega
      obtain ⟨A2, c2, hsl, hin⟩ := preB (hX.ext hE) n (by omega)
      obtain ⟨b0, o0, rfl, hc0⟩ := (hr.ext hE).byte (k := n) hn2
      obtain ⟨b1, o1, he1, hc1⟩ := (hr.ext hE).byte (k := n + 1) hn3
      injection he1 with he1
      injection he1 with he11 he12
      subst he11 he12
      have HHI : Hid (hiV b = b[n].toNat) := Lib.hid (by simp [hiV, hn])
      have HLO : Hid (loV b = b[n + 1].toNat) := Lib.hid (by simp [loV, hn])
      have HCU : Hid (cutB2 b = b.take n) := Lib.hid (by rw [cutB2, hn]; rfl)
      generalize b[n] = hb0 at *
      generalize b[n + 1] = lb0 at *
      have hh := hb0.toNat_lt
      have hl0 := lb0.toNat_lt
      have i1 : (n : Int) < (b.length : Int) := by omega
      have i2 : (n : Int) + 1 < (b.length : Int) := by omega
      have hsub : (b.length : Int) - 2 = (n : Int) := by omega
      have t2 : decide ((n : Int) < 1) = false := by simp; omega
      have HB := Lib.hid hb
      clear hn hb
      have HCR : Hid (crcOK b ↔ crcL 65535 (b.take n) = hb0.toNat * 256 + lb0.toNat) := Lib.hid (by rw [crcOK, HCU.out, HHI.out, HLO.out])
      have hws : IntKind.i64.wrap ((n : Int) + 1) = (n : Int) + 1 := by rw [IntKind.wrap_i64]; omega
      have hws2 : IntKind.i64.wrap ((hb0.toNat : Int) * 256) = (hb0.toNat : Int) * 256 := by rw [IntKind.wrap_i64]; omega
      have hws3 : IntKind.i64.wrap (hb0.toNat : Int) = (hb0.toNat : Int) := by rw [IntKind.wrap_i64]; omega
      have hws4 : IntKind.i64.wrap (lb0.toNat : Int) = (lb0.toNat : Int) := by rw [IntKind.wrap_i64]; omega
      have hws5 : IntKind.i64.wrap ((hb0.toNat : Int) * 256 + (lb0.toNat : Int)) = (hb0.toNat : Int) * 256 + (lb0.toNat : Int) := by rw [IntKind.wrap_i64]; omega
      have htn : ((n : Int) + 1).toNat = n + 1 := by omega
      have hp1 : 0 ≤ (n : Int) + 1 := by omega
      go_wp2_with fail
      refine wp_region_still_lit (by kernel_rfl) (by kernel_rfl) ?_
      iterate 19 still_step
      still_call (refSum_still _ (b.take n) _ (hin.ext ((Ext.refl W).drew)) (by simp; omega))
      repeat still_step
      refine wpStill_nil ?_
      change (Exit.then _ _) _ _ W.drew
      have hE1 := hE.drew
      have hres1 : W.drew.heap[w.heap.size]? = _ := hres
      obtain ⟨A2', c2', hsl', hinw⟩ := preB hX n (by omega)
      have hsa := (hsl W).symm.trans (hsl' W)
      simp only [Result.ok.injEq, Value.slice.injEq, and_true, true_and] at hsa
      obtain ⟨rfl, rfl⟩ := hsa
      clear hsl' hres hin hE hws hws2 hws3 hws4 hws5 htn hp1 hc0 hc1 HHI HLO t2
      generalize W.drew = W1 at *
      have hl9 : (b.take n).length = n := by simp; omega
      have hpn : 1 ≤ n := by have := HN.out; omega
      by_cases hcr : crcL 65535 (b.take n) = hb0.toNat * 256 + lb0.toNat
      · have t1' : ((hb0.toNat : Int) * 256 + (lb0.toNat : Int) != (crcL 65535 (b.take n) : Int)) = false := by simp [hcr]
        have HC := Lib.hid (HCR.out.2 hcr)
        clear hcr HCR
        rw [← HCU.out] at hinw hl9 t1' ⊢
        generalize (hb0.toNat : Int) * 256 + (lb0.toNat : Int) = rhs at *
        have HL9 := Lib.hid hl9
        clear hl9
        obtain ⟨b9, o9, he9, hcz⟩ := (hr.ext hE1).byte (k := 0) (by omega)
        injection he9 with he9
        injection he9 with he91 he92
        subst he91 he92
        have HG0 : Hid ((cutB2 b).getD 0 0 = b[0]'(by omega)) := Lib.hid (by rw [HCU.out]; simp [List.getD, show 0 < n by omega, List.getElem?_eq_getElem (show 0 < b.length by omega)])
        generalize b[0]'(by omega) = z0 at *
        have hcz' : W1.cell? ⟨b0, o0, none⟩ = some (.int .u8 (z0.toNat : Int)) := hcz
        have hz0 := z0.toNat_lt
        have i0 : (0 : Int) < (b.length : Int) := by omega
        have i0' : 0 < b.length := by omega
        clear hcz
        go_wp2_with fail
        obtain ⟨W2, hW2, hR⟩ : ∃ W2, W2 = (W1.alloc (.cells #[.int .i64 (z0.toNat : Int), .int .i64 0, .int .i64 0, .int .i64 0, .int .i64 0, .slice none 0 0] 47)).alloc (.cells #[.int .i64 0, .int .i64 0, .int .i64 0, .int .i64 0, .int .i64 0] 118) ∧ RB w W2 W1.heap.size (W1.heap.size + 1) #[.int .i64 (z0.toNat : Int), .int .i64 0, .int .i64 0, .int .i64 0, .int .i64 0, .slice none 0 0] (cutB2 b) 0 := by
          refine ⟨_, rfl, blk_alloc (blk_alloc hres1 _) _, blk_alloc (heap_alloc_new W1 _) _, ?_, (hE1.alloc _).alloc _, ?_⟩
          · have := heap_alloc_new (W1.alloc (.cells #[.int .i64 (z0.toNat : Int), .int .i64 0, .int .i64 0, .int .i64 0, .int .i64 0, .slice none 0 0] 47)) (.cells #[.int .i64 0, .int .i64 0, .int .i64 0, .int .i64 0, .int .i64 0] 118)
            simpa [ncell] using this
          · have := World.block_lt_of_cell? _ _ (blk6 hres1).1
            simp only at this
            omega
        rw [← hW2]
        clear hW2 hres1 hE1 hcz'
        generalize hgp : W1.heap.size = gp at *
        clear hgp
        obtain ⟨gn, hgn⟩ : ∃ gn, gn = gp + 1 := ⟨_, rfl⟩
        rw [← hgn] at hR ⊢
        clear hgn
        go_loopw [7, 8] (fun a i wr => ∃ j : Nat, j ≤ 5 ∧ i = .int .i64 (j : Int) ∧ a = .int .i64 (pos (cutB2 b) j) ∧ (∀ i, i < j → err (cutB2 b) i = 0) ∧ RB w wr gp gn #[.int .i64 (z0.toNat : Int), .int .i64 0, .int .i64 0, .int .i64 0, .int .i64 0, .slice none 0 0] (cutB2 b) j) (fun _ i _ => 5 - (intOf i).toNat)
        case atStart => exact ⟨0, by omega, rfl, rfl, fun i hi => absurd hi (by omega), hR⟩
        case round =>
          clear hR
          obtain ⟨j, hj, rfl, rfl, hall, hR⟩ := hrel
          obtain ⟨wo, rfl⟩ : ∃ wo : World, wo = wr := ⟨_, rfl⟩
          have HA := Lib.hid hall
          have hpr := pos_range hall (by have := HL9.out; omega)
          clear hall
          by_cases hj5 : j < 5
          · have hij : (j : Int) < 5 := by omega
            go_wp2_with fail
            refine (refUint_any _ (cutB2 b) (pos (cutB2 b) j) wo (hinw.ext hR.ext) (by have := HL9.out; omega)).mono ?_
            rintro e w1 ⟨rfl, rfl⟩
            have HPS : Hid (pos (cutB2 b) (j + 1) = (uintR (cutB2 b) (pos (cutB2 b) j)).2.1) := Lib.hid rfl
            have HVS : Hid (val (cutB2 b) j = (uintR (cutB2 b) (pos (cutB2 b) j)).1) := Lib.hid rfl
            have HES : Hid (err (cutB2 b) j = (uintR (cutB2 b) (pos (cutB2 b) j)).2.2) := Lib.hid rfl
            generalize (uintR (cutB2 b) (pos (cutB2 b) j)).1 = uv at *
            generalize (uintR (cutB2 b) (pos (cutB2 b) j)).2.1 = un at *
            generalize (uintR (cutB2 b) (pos (cutB2 b) j)).2.2 = ue at *
            by_cases hue : ue = 0
            · have e1 : (ue != 0) = false := by simp [hue]
              have HUE := Lib.hid hue
              clear hue
              have hP2 := hR.step hj5
              rw [HVS.out] at hP2
              have hfz := blk_free hR.num j
              have hcj : ∃ z, wo.cell? ⟨gn, j, none⟩ = some z := by
                rcases (show j = 0 ∨ j = 1 ∨ j = 2 ∨ j = 3 ∨ j = 4 by omega) with rfl | rfl | rfl | rfl | rfl
                · exact ⟨_, (blk5 hR.num).1⟩
                · exact ⟨_, (blk5 hR.num).2.1⟩
                · exact ⟨_, (blk5 hR.num).2.2.1⟩
                · exact ⟨_, (blk5 hR.num).2.2.2.1⟩
                · exact ⟨_, (blk5 hR.num).2.2.2.2⟩
              obtain ⟨z, hcz⟩ := hcj
              go_wp2_with fail
              go_roundw
              case rel => exact ⟨j + 1, by omega, by go_num, by rw [HPS.out], fun i hi => by
                by_cases e : i = j
                · subst e; rw [HES.out, HUE.out]
                · exact HA.out i (by omega), hP2⟩
              case measure => simp [intOf]; omega
            · have e1 : (ue != 0) = true := by simpa using hue
              have HUE := Lib.hid hue
              clear hue
              have hE2 := hR.ext
              have hres2 := hR.res
              obtain ⟨r0, r1, r2, r3, r4, r5⟩ := blk6 hres2
              obtain ⟨g0, g1, g2, g3, g4, g5⟩ := blk6f hres2
              go_wp2
              refine bodyPost_ret (v := .tuple #[.agg #[.int .i64 0, .int .i64 0, .int .i64 0, .int .i64 0, .int .i64 0, .slice none 0 0], .int .i64 4]) (by simp [results, Try.results54, go_sem, r0, r1, r2, r3, r4, r5]) rfl ?_
              exact ⟨_, pk0, _, rfl, .inr (.inr ⟨by omega, by omega, HC.out, .inr ⟨fun h => HUE.out (by rw [← HES.out]; exact h.1.1 j hj5), rfl, rfl⟩⟩), ⟨_, rfl, OwnV.nil _⟩, (((((hE2.setCell (p := ⟨w.heap.size, 0, none⟩) (Nat.le_refl _) _).setCell (p := ⟨w.heap.size, 1, none⟩) (Nat.le_refl _) _).setCell (p := ⟨w.heap.size, 2, none⟩) (Nat.le_refl _) _).setCell (p := ⟨w.heap.size, 3, none⟩) (Nat.le_refl _) _).setCell (p := ⟨w.heap.size, 4, none⟩) (Nat.le_refl _) _).setCell (p := ⟨w.heap.size, 5, none⟩) (Nat.le_refl _) _⟩
          · obtain rfl : j = 5 := by omega
            go_wp2_with fail
            refine wp_region_Y (fun W' => ∃ a1 a2 a3 a4 : Value, RB w W' gp gn #[.int .i64 (z0.toNat : Int), a1, a2, a3, a4, .slice none 0 0] (cutB2 b) 5) #[true, true, true, true, true, true, true, true, true, true, true, true, true, true, true, true] 16 0 (by kernel_rfl) rfl ?_
            refine wpY_inv _ [0, 1, 2, 3, 4, 5, 6, 7, 8, 9, 10, 11, 12, 13, 14, 15] (fun i => match i with | 0 => 69 | 1 => 70 | 2 => 71 | 3 => 72 | 4 => 73 | 5 => 74 | 6 => 75 | 7 => 76 | 8 => 77 | 9 => 101 | 10 => 78 | 11 => 102 | 12 => 79 | 13 => 103 | 14 => 80 | _ => 104) (fun i v W' => match i with | 0 => v = .pointer (some ⟨gn, 0, none⟩) | 1 => v = .int .i64 (val (cutB2 b) 0) | 2 => v = .pointer (some ⟨gn, 1, none⟩) | 3 => v = .int .i64 (val (cutB2 b) 1) | 4 => v = .pointer (some ⟨gn, 2, none⟩) | 5 => v = .int .i64 (val (cutB2 b) 2) | 6 => v = .pointer (some ⟨gn, 3, none⟩) | 7 => v = .int .i64 (val (cutB2 b) 3) | 8 => v = .pointer (some ⟨gp, 1, none⟩) | 9 => W'.cell? ⟨gp, 1, none⟩ = some (.int .i64 (val (cutB2 b) 0)) | 10 => v = .pointer (some ⟨gp, 2, none⟩) | 11 => W'.cell? ⟨gp, 2, none⟩ = some (.int .i64 (val (cutB2 b) 1)) | 12 => v = .pointer (some ⟨gp, 3, none⟩) | 13 => W'.cell? ⟨gp, 3, none⟩ = some (.int .i64 (val (cutB2 b) 2)) | 14 => v = .pointer (some ⟨gp, 4, none⟩) | _ => W'.cell? ⟨gp, 4, none⟩ = some (.int .i64 (val (cutB2 b) 3))) (fun _ _ => True) 101 (by kernel_rfl) rfl (by decide) rfl ?_ ⟨_, _, _, _, hR.drew⟩ (fun _ _ => trivial) ?_
            · intro i hi a' W' hsN hS hH ha hw
              simp only [List.mem_cons, List.not_mem_nil, or_false] at hi
              obtain ⟨a1, a2, a3, a4, hS⟩ := hS
              obtain ⟨n0, n1, n2, n3, n4⟩ := blk5 hS.num
              simp only [ncell, Nat.reduceLT, if_true] at n0 n1 n2 n3 n4
              obtain ⟨q0, q1, q2, q3, q4, q5⟩ := blk6 hS.pkt
              obtain ⟨f0, f1, f2, f3, f4, f5⟩ := blk6f hS.pkt
              have p5 : a'.tmps[5]?.getD undef = .pointer (some ⟨gp, 0, none⟩) := (ha 5 rfl).2
              have p6 : a'.tmps[6]?.getD undef = .pointer (some ⟨gn, 0, none⟩) := (ha 6 rfl).2
              rcases hi with rfl | rfl | rfl | rfl | rfl | rfl | rfl | rfl | rfl | rfl | rfl | rfl | rfl | rfl | rfl | rfl
              · refine op_make (v := .pointer (some ⟨gn, 0, none⟩)) (W' := W') rfl rfl (by go_simp) ?_
                exact ⟨_, rfl, .inl (by decide), ⟨_, _, _, _, hS⟩, rfl, fun j hj hne => ⟨fun u hu => hu, fun hu => hu⟩⟩
              · have v1 := eval_get (hw 0 (by decide) (by kernel_rfl))
                simp only at v1
                refine op_make (v := .int .i64 (val (cutB2 b) 0)) (W' := W') rfl rfl (by go_simp) ?_
                exact ⟨_, rfl, .inl (by decide), ⟨_, _, _, _, hS⟩, rfl, fun j hj hne => ⟨fun u hu => hu, fun hu => hu⟩⟩
              · refine op_make (v := .pointer (some ⟨gn, 1, none⟩)) (W' := W') rfl rfl (by go_simp) ?_
                exact ⟨_, rfl, .inl (by decide), ⟨_, _, _, _, hS⟩, rfl, fun j hj hne => ⟨fun u hu => hu, fun hu => hu⟩⟩
              · have v1 := eval_get (hw 2 (by decide) (by kernel_rfl))
                simp only at v1
                refine op_make (v := .int .i64 (val (cutB2 b) 1)) (W' := W') rfl rfl (by go_simp) ?_
                exact ⟨_, rfl, .inl (by decide), ⟨_, _, _, _, hS⟩, rfl, fun j hj hne => ⟨fun u hu => hu, fun hu => hu⟩⟩
              · refine op_make (v := .pointer (some ⟨gn, 2, none⟩)) (W' := W') rfl rfl (by go_simp) ?_
                exact ⟨_, rfl, .inl (by decide), ⟨_, _, _, _, hS⟩, rfl, fun j hj hne => ⟨fun u hu => hu, fun hu => hu⟩⟩
              · have v1 := eval_get (hw 4 (by decide) (by kernel_rfl))
                simp only at v1
                refine op_make (v := .int .i64 (val (cutB2 b) 2)) (W' := W') rfl rfl (by go_simp) ?_
                exact ⟨_, rfl, .inl (by decide), ⟨_, _, _, _, hS⟩, rfl, fun j hj hne => ⟨fun u hu => hu, fun hu => hu⟩⟩
              · refine op_make (v := .pointer (some ⟨gn, 3, none⟩)) (W' := W') rfl rfl (by go_simp) ?_
                exact ⟨_, rfl, .inl (by decide), ⟨_, _, _, _, hS⟩, rfl, fun j hj hne => ⟨fun u hu => hu, fun hu => hu⟩⟩
              · have v1 := eval_get (hw 6 (by decide) (by kernel_rfl))
                simp only at v1
                refine op_make (v := .int .i64 (val (cutB2 b) 3)) (W' := W') rfl rfl (by go_simp) ?_
                exact ⟨_, rfl, .inl (by decide), ⟨_, _, _, _, hS⟩, rfl, fun j hj hne => ⟨fun u hu => hu, fun hu => hu⟩⟩
              · refine op_make (v := .pointer (some ⟨gp, 1, none⟩)) (W' := W') rfl rfl (by go_simp) ?_
                exact ⟨_, rfl, .inl (by decide), ⟨_, _, _, _, hS⟩, rfl, fun j hj hne => ⟨fun u hu => hu, fun hu => hu⟩⟩
              · have v1 := eval_get (hw 8 (by decide) (by kernel_rfl))
                have v2 := eval_get (hw 1 (by decide) (by kernel_rfl))
                simp only at v1 v2
                refine op_skip (W' := W'.setCell ⟨gp, 1, none⟩ (.int .i64 (val (cutB2 b) 0))) rfl rfl rfl (by go_simp) ?_
                have hS2 := hS.put 1 (.int .i64 (val (cutB2 b) 0))
                simp only [List.setIfInBounds_toArray, List.set_cons_zero, List.set_cons_succ] at hS2
                refine ⟨undef, put_out hsN (by decide) _, .inr rfl, ⟨_, _, _, _, hS2⟩, World.cell?_setCell_same _ _ _ q1, ?_⟩
                intro j hj hne
                simp only [List.mem_cons, List.not_mem_nil, or_false] at hj
                rcases hj with rfl | rfl | rfl | rfl | rfl | rfl | rfl | rfl | rfl | rfl | rfl | rfl | rfl | rfl | rfl | rfl
                all_goals first | exact absurd rfl hne | exact ⟨fun u hu => hu, fun hu => hu⟩ | exact ⟨fun u hu => (World.cell?_setCell_other _ _ _ _ (by simp)).trans hu, fun hu => hu⟩
              · refine op_make (v := .pointer (some ⟨gp, 2, none⟩)) (W' := W') rfl rfl (by go_simp) ?_
                exact ⟨_, rfl, .inl (by decide), ⟨_, _, _, _, hS⟩, rfl, fun j hj hne => ⟨fun u hu => hu, fun hu => hu⟩⟩
              · have v1 := eval_get (hw 10 (by decide) (by kernel_rfl))
                have v2 := eval_get (hw 3 (by decide) (by kernel_rfl))
                simp only at v1 v2
                refine op_skip (W' := W'.setCell ⟨gp, 2, none⟩ (.int .i64 (val (cutB2 b) 1))) rfl rfl rfl (by go_simp) ?_
                have hS2 := hS.put 2 (.int .i64 (val (cutB2 b) 1))
                simp only [List.setIfInBounds_toArray, List.set_cons_zero, List.set_cons_succ] at hS2
                refine ⟨undef, put_out hsN (by decide) _, .inr rfl, ⟨_, _, _, _, hS2⟩, World.cell?_setCell_same _ _ _ q2, ?_⟩
                intro j hj hne
                simp only [List.mem_cons, List.not_mem_nil, or_false] at hj
                rcases hj with rfl | rfl | rfl | rfl | rfl | rfl | rfl | rfl | rfl | rfl | rfl | rfl | rfl | rfl | rfl | rfl
                all_goals first | exact absurd rfl hne | exact ⟨fun u hu => hu, fun hu => hu⟩ | exact ⟨fun u hu => (World.cell?_setCell_other _ _ _ _ (by simp)).trans hu, fun hu => hu⟩
              · refine op_make (v := .pointer (some ⟨gp, 3, none⟩)) (W' := W') rfl rfl (by go_simp) ?_
                exact ⟨_, rfl, .inl (by decide), ⟨_, _, _, _, hS⟩, rfl, fun j hj hne => ⟨fun u hu => hu, fun hu => hu⟩⟩
              · have v1 := eval_get (hw 12 (by decide) (by kernel_rfl))
                have v2 := eval_get (hw 5 (by decide) (by kernel_rfl))
                simp only at v1 v2
                refine op_skip (W' := W'.setCell ⟨gp, 3, none⟩ (.int .i64 (val (cutB2 b) 2))) rfl rfl rfl (by go_simp) ?_
                have hS2 := hS.put 3 (.int .i64 (val (cutB2 b) 2))
                simp only [List.setIfInBounds_toArray, List.set_cons_zero, List.set_cons_succ] at hS2
                refine ⟨undef, put_out hsN (by decide) _, .inr rfl, ⟨_, _, _, _, hS2⟩, World.cell?_setCell_same _ _ _ q3, ?_⟩
                intro j hj hne
                simp only [List.mem_cons, List.not_mem_nil, or_false] at hj
                rcases hj with rfl | rfl | rfl | rfl | rfl | rfl | rfl | rfl | rfl | rfl | rfl | rfl | rfl | rfl | rfl | rfl
                all_goals first | exact absurd rfl hne | exact ⟨fun u hu => hu, fun hu => hu⟩ | exact ⟨fun u hu => (World.cell?_setCell_other _ _ _ _ (by simp)).trans hu, fun hu => hu⟩
              · refine op_make (v := .pointer (some ⟨gp, 4, none⟩)) (W' := W') rfl rfl (by go_simp) ?_
                exact ⟨_, rfl, .inl (by decide), ⟨_, _, _, _, hS⟩, rfl, fun j hj hne => ⟨fun u hu => hu, fun hu => hu⟩⟩
              · have v1 := eval_get (hw 14 (by decide) (by kernel_rfl))
                have v2 := eval_get (hw 7 (by decide) (by kernel_rfl))
                simp only at v1 v2
                refine op_skip (W' := W'.setCell ⟨gp, 4, none⟩ (.int .i64 (val (cutB2 b) 3))) rfl rfl rfl (by go_simp) ?_
                have hS2 := hS.put 4 (.int .i64 (val (cutB2 b) 3))
                simp only [List.setIfInBounds_toArray, List.set_cons_zero, List.set_cons_succ] at hS2
                refine ⟨undef, put_out hsN (by decide) _, .inr rfl, ⟨_, _, _, _, hS2⟩, World.cell?_setCell_same _ _ _ q4, ?_⟩
                intro j hj hne
                simp only [List.mem_cons, List.not_mem_nil, or_false] at hj
                rcases hj with rfl | rfl | rfl | rfl | rfl | rfl | rfl | rfl | rfl | rfl | rfl | rfl | rfl | rfl | rfl | rfl
                all_goals first | exact absurd rfl hne | exact ⟨fun u hu => hu, fun hu => hu⟩ | exact ⟨fun u hu => (World.cell?_setCell_other _ _ _ _ (by simp)).trans hu, fun hu => hu⟩
            intro xs W' hS hG
            have g9 := hG 9 (by decide)
            have g11 := hG 11 (by decide)
            have g13 := hG 13 (by decide)
            have g15 := hG 15 (by decide)
            simp only at g9 g11 g13 g15
            obtain ⟨a1, a2, a3, a4, hS⟩ := hS
            obtain ⟨q0, q1, q2, q3, q4, q5⟩ := blk6 hS.pkt
            rw [g9] at q1
            rw [g11] at q2
            rw [g13] at q3
            rw [g15] at q4
            injection q1 with q1
            injection q2 with q2
            injection q3 with q3
            injection q4 with q4
            subst q1 q2 q3 q4
            clear g9 g11 g13 g15 hG q0 q5 hR
            simp only [putL, List.map_cons, List.map_nil, List.foldl_cons, List.foldl_nil, Act.put]
            simp only [List.setIfInBounds_toArray, List.set_cons_zero, List.set_cons_succ, List.set_nil]
            generalize xs 0 = s0
            generalize xs 1 = s1
            generalize xs 2 = s2
            generalize xs 3 = s3
            generalize xs 4 = s4
            generalize xs 5 = s5
            generalize xs 6 = s6
            generalize xs 7 = s7
            generalize xs 8 = s8
            generalize xs 10 = s10
            generalize xs 12 = s12
            generalize xs 14 = s14
            refine tail_none (by kernel_rfl) ?_
            refine NoPanic.normal ?_
            have HOK : Hid (okL (cutB2 b) ↔ val (cutB2 b) 4 = ((cutB2 b).length : Int) - pos (cutB2 b) 5) := Lib.hid ⟨fun h => h.2, fun h => ⟨HA.out, h⟩⟩
            have HPK : Hid (pktL (cutB2 b) = ⟨(z0.toNat : Int), val (cutB2 b) 0, val (cutB2 b) 1, val (cutB2 b) 2, val (cutB2 b) 3, (cutB2 b).drop (pos (cutB2 b) 5).toNat⟩) := Lib.hid (by rw [pktL, HG0.out])
            obtain ⟨n0, n1, n2, n3, n4⟩ := blk5 hS.num
            simp only [ncell, Nat.reduceLT, if_true] at n0 n1 n2 n3 n4
            clear n0 n1 n2 n3
            generalize hx0 : val (cutB2 b) 0 = x0 at hS HPK ⊢
            generalize hx1 : val (cutB2 b) 1 = x1 at hS HPK ⊢
            generalize hx2 : val (cutB2 b) 2 = x2 at hS HPK ⊢
            generalize hx3 : val (cutB2 b) 3 = x3 at hS HPK ⊢
            clear hx0 hx1 hx2 hx3
            have hpr2 := hpr
            generalize pos (cutB2 b) 5 = at_ at *
            obtain ⟨pn, rfl⟩ := Int.eq_ofNat_of_zero_le (show 0 ≤ at_ by omega)
            rw [Int.toNat_natCast] at HPK
            have hpn2 : pn ≤ n := by have := HL9.out; omega
            obtain ⟨ys, hsy, hiy⟩ := cutB (hX.ext hS.ext) pn n hpn2 (by omega)
            have HDR : Hid ((b.drop pn).take (n - pn) = (cutB2 b).drop pn) := Lib.hid (by rw [HCU.out, List.drop_take])
            rw [HDR.out] at hiy
            have hbl : ((cutB2 b).drop pn).length = n - pn := by rw [List.length_drop, HL9.out]
            have HBL := Lib.hid hbl
            clear hbl
            have hS1 := hS
            obtain ⟨q0, q1, q2, q3, q4, q5⟩ := blk6 hS.pkt
            obtain ⟨f0, f1, f2, f3, f4, f5⟩ := blk6f hS.pkt
            have lt1 := World.block_lt_of_cell? _ _ q0
            simp only at lt1
            generalize hdl : (cutB2 b).drop pn = bod at *
            have HDL := Lib.hid hdl
            clear hdl
            go_wp2_with (at_builtin; go_must (refine wpList_appendV elem_u8 (fun _ => rfl) rfl (.tmp 81) (.tmp 85) rfl W'.heap.size _ [] rfl (own_empty W' _ rfl).toV _ bod rfl (hiy.ext ((Ext.refl W').alloc _)) (by have := HBL.out; simp; omega) (by omega) (by simp) (Hold.out ?_)))
            refine Hold.mk fun v16 w16 ho16 hg16 => ?_
            have hE16 := hg16.ext ((Ext.refl W').alloc _) (fun k hk => by simp only [Value.ownBlock, Option.some.injEq] at hk; omega)
            have hS16 := hS.grow hE16
            obtain ⟨Y16, c16, rfl, _, _⟩ := ho16.inV
            have hS17 := hS16.put 5 (.slice Y16 bod.length c16)
            simp only [List.setIfInBounds_toArray, List.set_cons_zero, List.set_cons_succ] at hS17
            have ho17 := ho16.set_far (p := ⟨gp, 5, none⟩) (ho16.ne_blk hS16.pkt (by decide)) (.slice Y16 bod.length c16)
            clear q0 q1 q2 q3 q4 q5 f0 f1 f2 f3 f4 f5 n4
            obtain ⟨q0, q1, q2, q3, q4, q5⟩ := blk6 hS16.pkt
            obtain ⟨f0, f1, f2, f3, f4, f5⟩ := blk6f hS16.pkt
            have hbase16 : w.heap.size ≤ W'.heap.size := hS.ext.size
            clear hg16 ho16 hE16 hS16 hS hS1 hiy lt1
            go_upto_region 18 with fail
            clear q0 q1 q2 q3 q4 q5 f0 f1 f2 f3 f4 f5
            generalize w16.setCell ⟨gp, 5, none⟩ (.slice Y16 bod.length c16) = w17 at *
            obtain ⟨n0, n1, n2, n3, n4⟩ := blk5 hS17.num
            simp only [ncell, Nat.reduceLT, if_true] at n0 n1 n2 n3 n4
            clear n0 n1 n2 n3
            obtain ⟨q0, q1, q2, q3, q4, q5⟩ := blk6 hS17.pkt
            have hE17 := hS17.ext
            have hres17 := hS17.res
            have HO4 : Hid (okL (cutB2 b) ↔ val (cutB2 b) 4 = (bod.length : Int)) := Lib.hid (by rw [HOK.out, HL9.out, HBL.out]; constructor <;> intro h <;> omega)
            generalize val (cutB2 b) 4 = x4 at *
            by_cases h4 : x4 = (bod.length : Int)
            · have e1 : (x4 != (bod.length : Int)) = false := by simp [h4]
              have H4 := Lib.hid (HO4.out.2 h4)
              clear h4 HOK HO4
              have hPA : PktAt w17 (.agg #[.int .i64 (z0.toNat : Int), .int .i64 x0, .int .i64 x1, .int .i64 x2, .int .i64 x3, .slice Y16 bod.length c16]) (pktL (cutB2 b)) := by
                rw [HPK.out]
                exact ⟨_, rfl, ho17.inV⟩
              go_wp2_with fail
              refine (refRight_any _ (pktL (cutB2 b)) w17 hPA (by rw [HPK.out]; have := HBL.out; show bod.length ≤ _; omega)).mono ?_
              rintro e w18 ⟨r18, rfl, hr18, he18⟩
              have hE18 := hE17.trans he18
              have hres18 := he18.heap hres17
              have ho18 := (ho17.ext he18).low (base' := w.heap.size) hbase16
              have hpk18 := he18.heap hS17.pkt
              clear q0 q1 q2 q3 q4 q5 n4 hE17 hres17 hS17 ho17 he18 hPA
              cases r18 with
              | true =>
                have HR := Lib.hid (hr18.1 rfl)
                clear hr18
                obtain ⟨q0, q1, q2, q3, q4, q5⟩ := blk6 hpk18
                obtain ⟨r0, r1, r2, r3, r4, r5⟩ := blk6 hres18
                obtain ⟨g0, g1, g2, g3, g4, g5⟩ := blk6f hres18
                go_wp2
                refine bodyPost_ret (v := .tuple #[.agg #[.int .i64 (z0.toNat : Int), .int .i64 x0, .int .i64 x1, .int .i64 x2, .int .i64 x3, .slice Y16 bod.length c16], .int .i64 0]) (by simp [results, Try.results54, go_sem, r0, r1, r2, r3, r4, r5]) rfl ?_
                refine ⟨_, pktL (cutB2 b), _, rfl, .inr (.inr ⟨by omega, by omega, HC.out, .inl ⟨H4.out, HR.out, rfl, rfl⟩⟩), ?_, (((((hE18.setCell (p := ⟨w.heap.size, 0, none⟩) (Nat.le_refl _) _).setCell (p := ⟨w.heap.size, 1, none⟩) (Nat.le_refl _) _).setCell (p := ⟨w.heap.size, 2, none⟩) (Nat.le_refl _) _).setCell (p := ⟨w.heap.size, 3, none⟩) (Nat.le_refl _) _).setCell (p := ⟨w.heap.size, 4, none⟩) (Nat.le_refl _) _).setCell (p := ⟨w.heap.size, 5, none⟩) (Nat.le_refl _) _⟩
                rw [HPK.out]
                have hne := ho18.ne_blk hres18 (by decide)
                exact ⟨_, rfl, (((((ho18.set_far (p := ⟨w.heap.size, 0, none⟩) hne _).set_far (p := ⟨w.heap.size, 1, none⟩) hne _).set_far (p := ⟨w.heap.size, 2, none⟩) hne _).set_far (p := ⟨w.heap.size, 3, none⟩) hne _).set_far (p := ⟨w.heap.size, 4, none⟩) hne _).set_far (p := ⟨w.heap.size, 5, none⟩) hne _⟩
              | false =>
                have HR : Hid (¬ rightP (pktL (cutB2 b))) := Lib.hid (fun h => by have := hr18.2 h; cases this)
                clear hr18
                obtain ⟨r0, r1, r2, r3, r4, r5⟩ := blk6 hres18
                obtain ⟨g0, g1, g2, g3, g4, g5⟩ := blk6f hres18
                go_wp2
                refine bodyPost_ret (v := .tuple #[.agg #[.int .i64 0, .int .i64 0, .int .i64 0, .int .i64 0, .int .i64 0, .slice none 0 0], .int .i64 4]) (by simp [results, Try.results54, go_sem, r0, r1, r2, r3, r4, r5]) rfl ?_
                exact ⟨_, pk0, _, rfl, .inr (.inr ⟨by omega, by omega, HC.out, .inr ⟨fun h => HR.out h.2, rfl, rfl⟩⟩), ⟨_, rfl, OwnV.nil _⟩, (((((hE18.setCell (p := ⟨w.heap.size, 0, none⟩) (Nat.le_refl _) _).setCell (p := ⟨w.heap.size, 1, none⟩) (Nat.le_refl _) _).setCell (p := ⟨w.heap.size, 2, none⟩) (Nat.le_refl _) _).setCell (p := ⟨w.heap.size, 3, none⟩) (Nat.le_refl _) _).setCell (p := ⟨w.heap.size, 4, none⟩) (Nat.le_refl _) _).setCell (p := ⟨w.heap.size, 5, none⟩) (Nat.le_refl _) _⟩
            · have e1 : (x4 != (bod.length : Int)) = true := by simpa using h4
              have H4 : Hid (¬ okL (cutB2 b)) := Lib.hid (fun h => h4 (HO4.out.1 h))
              clear h4
              obtain ⟨r0, r1, r2, r3, r4, r5⟩ := blk6 hres17
              obtain ⟨g0, g1, g2, g3, g4, g5⟩ := blk6f hres17
              go_wp2
              refine bodyPost_ret (v := .tuple #[.agg #[.int .i64 0, .int .i64 0, .int .i64 0, .int .i64 0, .int .i64 0, .slice none 0 0], .int .i64 4]) (by simp [results, Try.results54, go_sem, r0, r1, r2, r3, r4, r5]) rfl ?_
              exact ⟨_, pk0, _, rfl, .inr (.inr ⟨by omega, by omega, HC.out, .inr ⟨fun h => H4.out h.1, rfl, rfl⟩⟩), ⟨_, rfl, OwnV.nil _⟩, (((((hE17.setCell (p := ⟨w.heap.size, 0, none⟩) (Nat.le_refl _) _).setCell (p := ⟨w.heap.size, 1, none⟩) (Nat.le_refl _) _).setCell (p := ⟨w.heap.size, 2, none⟩) (Nat.le_refl _) _).setCell (p := ⟨w.heap.size, 3, none⟩) (Nat.le_refl _) _).setCell (p := ⟨w.heap.size, 4, none⟩) (Nat.le_refl _) _).setCell (p := ⟨w.heap.size, 5, none⟩) (Nat.le_refl _) _⟩
      · have t1' : ((hb0.toNat : Int) * 256 + (lb0.toNat : Int) != (crcL 65535 (b.take n) : Int)) = true := by
          simp only [bne_iff_ne, ne_eq]; omega
        have HC : Hid (¬ crcOK b) := Lib.hid (fun h => hcr (HCR.out.1 h))
        clear hcr HCR
        generalize (hb0.toNat : Int) * 256 + (lb0.toNat : Int) = rhs at *
        obtain ⟨r0, r1, r2, r3, r4, r5⟩ := blk6 hres1
        obtain ⟨g0, g1, g2, g3, g4, g5⟩ := blk6f hres1
        go_wp2
        refine bodyPost_ret (v := .tuple #[.agg #[.int .i64 0, .int .i64 0, .int .i64 0, .int .i64 0, .int .i64 0, .slice none 0 0], .int .i64 28]) (by simp [results, Try.results54, go_sem, r0, r1, r2, r3, r4, r5]) rfl ?_
        exact ⟨_, pk0, _, rfl, .inr (.inl ⟨by omega, .inr HC.out, rfl, rfl⟩), ⟨_, rfl, OwnV.nil _⟩, (((((hE1.setCell (p := ⟨w.heap.size, 0, none⟩) (Nat.le_refl _) _).setCell (p := ⟨w.heap.size, 1, none⟩) (Nat.le_refl _) _).setCell (p := ⟨w.heap.size, 2, none⟩) (Nat.le_refl _) _).setCell (p := ⟨w.heap.size, 3, none⟩) (Nat.le_refl _) _).setCell (p := ⟨w.heap.size, 4, none⟩) (Nat.le_refl _) _).setCell (p := ⟨w.heap.size, 5, none⟩) (Nat.le_refl _) _⟩
end Go.Proofs.Ytpngmnfjefplkaa
