/- The contract of packet.Decode. -/
import Derived.Test.YtnobepobalpccaaPacketI
import Derived.StillTailTactics
namespace Go.Proofs.Ytnobepobalpccaa
open Go.RowKit
set_option linter.unusedVariables false

def DecPost (b : List UInt8) (w : World) (e : Ending) (w' : World) : Prop := ∃ v p er, e = .returned (.tuple #[v, .int .i64 er]) ∧ DecIs b p er ∧ PktOwn w.heap.size w' v p ∧ Ext w w'
theorem Sum_still (x : Value) (l : List UInt8) (w : World) (hx : InB w x l) (hl : l.length ≤ 4294967296) :
    Calls Try.prog 26 #[x] w fun e w' => e = .returned (.int .i64 (crcL 65535 l : Int)) ∧ w' = w :=
  (Sum_any x l w hx hl).mono fun _ _ h => ⟨h.1, h.2.symm⟩
theorem preB {w : World} {x : Value} {l : List UInt8} (hx : InB w x l) (hi : Nat) (h1 : hi ≤ l.length) : ∃ A c, (∀ W, (Instr.slice 32 x none (some (.int .i64 (hi : Int))) none).run Try.prog W = .ok (.slice A hi c) W) ∧ InB w (.slice A hi c) (l.take hi) := by
  obtain ⟨i0, hi0, hs⟩ := u8_parts
  exact hx.pre Try.underlying32 hi0 hs hi h1
theorem or_shift (a b : Nat) (ha : a < 256) (hb : b < 256) : bits .or .i64 ((a : Int) * 256) (b : Int) = (a : Int) * 256 + (b : Int) := by
  have h := i64_or_nat (a * 256) b (by omega) (by omega)
  have e : ((a * 256 : Nat) : Int) = (a : Int) * 256 := by simp
  rw [e] at h
  rw [h, nat_join 8 (a * 256) b (by omega) (by omega)]
  simp

set_option maxHeartbeats 2000000 in
set_option maxRecDepth 100000 in
theorem Decode_any (x : Value) (b : List UInt8) (w : World) (hx : InB w x b) (hb : b.length ≤ 9223372036854775807) :
    Calls Try.prog 22 #[x] w (DecPost b w) := by
  have hX := hx
  obtain ⟨A, c, rfl, hcap, hr⟩ := hx
  go_enter Try.func22, Try.ntmps22
  go_upto_region 1 with fail
  obtain ⟨W, hW, hE, hres⟩ : ∃ W, W = w.alloc (.cells #[.int .i64 0, .int .i64 0, .int .i64 0, .int .i64 0, .int .i64 0, .slice none 0 0] 56) ∧ Ext w W ∧ W.heap[w.heap.size]? = some (.cells #[.int .i64 0, .int .i64 0, .int .i64 0, .int .i64 0, .int .i64 0, .slice none 0 0] 56 (0, 0)) := ⟨_, rfl, (Ext.refl w).alloc _, heap_alloc_new w _⟩
  rw [← hW]
  clear hW
  by_cases h1 : 6060 < b.length
  · have t1 : decide ((6060 : Int) < (b.length : Int)) = true := by simp; omega
    have h1' : (6060 : Int) < (b.length : Int) := by omega

    obtain ⟨r0, r1, r2, r3, r4, r5⟩ := blk6 hres
    obtain ⟨g0, g1, g2, g3, g4, g5⟩ := blk6f hres
    go_wp2
    refine bodyPost_ret (v := .tuple #[.agg #[.int .i64 0, .int .i64 0, .int .i64 0, .int .i64 0, .int .i64 0, .slice none 0 0], .int .i64 5]) (by simp [results, Try.results22, go_sem, r0, r1, r2, r3, r4, r5]) rfl ?_
    exact ⟨_, pk0, _, rfl, .inl ⟨h1, rfl, rfl⟩, ⟨_, rfl, OwnV.nil _⟩, (((((hE.setCell (p := ⟨w.heap.size, 0, none⟩) (Nat.le_refl _) _).setCell (p := ⟨w.heap.size, 1, none⟩) (Nat.le_refl _) _).setCell (p := ⟨w.heap.size, 2, none⟩) (Nat.le_refl _) _).setCell (p := ⟨w.heap.size, 3, none⟩) (Nat.le_refl _) _).setCell (p := ⟨w.heap.size, 4, none⟩) (Nat.le_refl _) _).setCell (p := ⟨w.heap.size, 5, none⟩) (Nat.le_refl _) _⟩
  · have h1' : ¬ (6060 : Int) < (b.length : Int) := by omega
    by_cases h3 : b.length < 3
    · have h3' : (b.length : Int) < 3 := by omega

      obtain ⟨r0, r1, r2, r3, r4, r5⟩ := blk6 hres
      obtain ⟨g0, g1, g2, g3, g4, g5⟩ := blk6f hres
      go_wp2
      refine bodyPost_ret (v := .tuple #[.agg #[.int .i64 0, .int .i64 0, .int .i64 0, .int .i64 0, .int .i64 0, .slice none 0 0], .int .i64 28]) (by simp [results, Try.results22, go_sem, r0, r1, r2, r3, r4, r5]) rfl ?_
      exact ⟨_, pk0, _, rfl, .inr (.inl ⟨by omega, .inl h3, rfl, rfl⟩), ⟨_, rfl, OwnV.nil _⟩, (((((hE.setCell (p := ⟨w.heap.size, 0, none⟩) (Nat.le_refl _) _).setCell (p := ⟨w.heap.size, 1, none⟩) (Nat.le_refl _) _).setCell (p := ⟨w.heap.size, 2, none⟩) (Nat.le_refl _) _).setCell (p := ⟨w.heap.size, 3, none⟩) (Nat.le_refl _) _).setCell (p := ⟨w.heap.size, 4, none⟩) (Nat.le_refl _) _).setCell (p := ⟨w.heap.size, 5, none⟩) (Nat.le_refl _) _⟩
    · have h3' : ¬ (b.length : Int) < 3 := by omega
      obtain ⟨n, hn⟩ : ∃ n : Nat, b.length = n + 2 := ⟨b.length - 2, by omega⟩
      have HN := Lib.hid hn
      have hn2 : n < b.length := by omega
      have hn3 : n + 1 < b.length := by omega
      obtain ⟨A2, c2, hsl, hin⟩ := preB (hX.ext hE) n (by omega)
      obtain ⟨b0, o0, rfl, hc0⟩ := (hr.ext hE).byte (k := n) hn2
      obtain ⟨b1, o1, he1, hc1⟩ := (hr.ext hE).byte (k := n + 1) hn3
      injection he1 with he1
      injection he1 with he11 he12
      subst he11 he12
      have HHI : Hid (hiV b = b[n].toNat) := Lib.hid (by simp [hiV, hn])
      have HLO : Hid (loV b = b[n + 1].toNat) := Lib.hid (by simp [loV, hn])
      have HCU : Hid (cutB2 b = b.take n) := Lib.hid (by rw [cutB2, hn]; rfl)
      generalize b[n] = hb0 at *
      generalize b[n + 1] = lb0 at *
      have hh := hb0.toNat_lt
      have hl0 := lb0.toNat_lt
      have hor := or_shift hb0.toNat lb0.toNat (by omega) (by omega)
      have i1 : (n : Int) < (b.length : Int) := by omega
      have i2 : (n : Int) + 1 < (b.length : Int) := by omega
      have hsub : (b.length : Int) - 2 = (n : Int) := by omega
      have HB := Lib.hid hb
      clear hn hb
      have HCR : Hid (crcOK b ↔ crcL 65535 (b.take n) = hb0.toNat * 256 + lb0.toNat) := Lib.hid (by rw [crcOK, HCU.out, HHI.out, HLO.out])
      have hws : IntKind.i64.wrap ((n : Int) + 1) = (n : Int) + 1 := by rw [IntKind.wrap_i64]; omega
      have hws2 : IntKind.i64.wrap ((hb0.toNat : Int) * 256) = (hb0.toNat : Int) * 256 := by rw [IntKind.wrap_i64]; omega
      have htn : ((n : Int) + 1).toNat = n + 1 := by omega
      have hp1 : 0 ≤ (n : Int) + 1 := by omega
      have hws3 : IntKind.i64.wrap (hb0.toNat : Int) = (hb0.toNat : Int) := by rw [IntKind.wrap_i64]; omega
      have hws4 : IntKind.i64.wrap (lb0.toNat : Int) = (lb0.toNat : Int) := by rw [IntKind.wrap_i64]; omega
      go_wp2_with fail
      refine wp_region_still_lit (by kernel_rfl) (by kernel_rfl) ?_
      still_step
      still_step
      still_step
      still_call (Sum_still _ (b.take n) _ (hin.ext ((Ext.refl W).drew)) (by simp; omega))
      repeat still_step
      refine wpStill_nil ?_
      change (Exit.then _ _) _ _ W.drew
      have hE1 := hE.drew
      have hres1 : W.drew.heap[w.heap.size]? = _ := hres
      have hin1 := hin.ext ((Ext.refl W).drew)
      clear hres hin hE hws hws2 hws3 hws4 hor htn hp1 hc0 hc1 HHI HLO
      generalize W.drew = W1 at *
      have hl9 : (b.take n).length = n := by simp; omega
      have hpn : 1 ≤ n := by have := HN.out; omega
      by_cases hcr : crcL 65535 (b.take n) = hb0.toNat * 256 + lb0.toNat
      · have t1 : ((crcL 65535 (b.take n) : Int) != (hb0.toNat : Int) * 256 + (lb0.toNat : Int)) = false := by simp [hcr]
        have HC := Lib.hid (HCR.out.2 hcr)
        clear hcr HCR
        rw [← HCU.out] at hin1 hl9 t1 ⊢
        generalize (hb0.toNat : Int) * 256 + (lb0.toNat : Int) = rhs at *
        have HL9 := Lib.hid hl9
        clear hl9
        go_wp2_with fail
        refine (parse_any _ (cutB2 b) W1 hin1 (by rw [HL9.out]; exact hpn) (by rw [HL9.out]; omega)).mono ?_
        rintro e w5 ⟨v5, r5, rfl, hcase, he5⟩
        have hE5 := hE1.trans he5
        have hEW1 := hE1.size
        have hres5 := he5.heap hres1
        clear he5 hres1 hin1 hE1
        rcases hcase with ⟨hok, rfl, hpk⟩ | ⟨hok, rfl, hpk⟩
        · have HOK := Lib.hid hok
          have HDE := Lib.hid (dec_enc (by omega) HC.out hok)
          clear hok
          obtain ⟨y5, rfl, hpo⟩ := hpk
          obtain ⟨Y5, cy5, rfl, _, _⟩ := hpo.inV
          have hPK : PktAt w5 _ (pktL (cutB2 b)) := ⟨_, rfl, hpo.inV⟩
          replace hpo := hpo.low (base' := w.heap.size) hEW1
          have HPL : Hid ((pktL (cutB2 b)).body.length ≤ 1000000) := Lib.hid (by have := HL9.out; simp only [pktL, List.length_drop]; omega)
          generalize hpp : pktL (cutB2 b) = pk at *
          have HPP := Lib.hid hpp
          clear hpp
          go_wp2_with fail
          have hbx := heap_alloc_new w5 (.cells #[.int .i64 pk.kind, .int .i64 pk.src, .int .i64 pk.dst, .int .i64 pk.seq, .int .i64 pk.ack, .slice Y5 pk.body.length cy5] 56)
          have hex := (Ext.refl w5).alloc (.cells #[.int .i64 pk.kind, .int .i64 pk.src, .int .i64 pk.dst, .int .i64 pk.seq, .int .i64 pk.ack, .slice Y5 pk.body.length cy5] 56)
          generalize w5.alloc (.cells #[.int .i64 pk.kind, .int .i64 pk.src, .int .i64 pk.dst, .int .i64 pk.seq, .int .i64 pk.ack, .slice Y5 pk.body.length cy5] 56) = w6 at *
          generalize w5.heap.size = gp at *
          have hE6 := hE5.trans hex
          have hres6 := hex.heap hres5
          have hP6 := hPK.ext hex
          replace hpo := hpo.ext hex
          clear hex hE5 hres5 hPK
          refine (Encode_any _ pk w6 hP6 (by have := HPL.out; omega)).mono ?_
          rintro e w7 ⟨y7, er7, rfl, hc7, he7⟩
          have hE7 := hE6.trans he7
          have hres7 := he7.heap hres6
          have hP7 := hP6.ext he7
          replace hpo := hpo.ext he7
          have hbx7 := he7.heap hbx
          clear he7 hE6 hres6 hP6 hbx
          rcases hc7 with ⟨hR, rfl, ho7⟩ | ⟨hR, rfl, rfl⟩
          · rw [HDE.out] at ho7
            have HR := Lib.hid hR
            clear hR
            obtain ⟨Y7, cy7, rfl, _, _⟩ := ho7.inV
            go_wp2_with fail
            refine (equalB_any _ _ b b w7 ho7.inV (hX.ext hE7) (by omega) (by omega)).mono ?_
            rintro e w8 ⟨rfl, nd, rfl⟩
            rw [decide_eq_true rfl]
            have hE8 := hE7.drewN nd
            replace hpo := hpo.ext ((Ext.refl w7).drewN nd)
            have hbx8 := ((Ext.refl w7).drewN nd).heap hbx7
            have hres8 := ((Ext.refl w7).drewN nd).heap hres7
            clear hE7 hP7 hbx7 hres7 ho7
            generalize w7.drewN nd = w8 at *
            obtain ⟨q0, q1, q2, q3, q4, q5⟩ := blk6 hbx8
            obtain ⟨r0, r1, r2, r3, r4, r5⟩ := blk6 hres8
            obtain ⟨g0, g1, g2, g3, g4, g5⟩ := blk6f hres8
            go_wp2
            refine bodyPost_ret (v := .tuple #[.agg #[.int .i64 pk.kind, .int .i64 pk.src, .int .i64 pk.dst, .int .i64 pk.seq, .int .i64 pk.ack, .slice Y5 pk.body.length cy5], .int .i64 0]) (by simp [results, Try.results22, go_sem, r0, r1, r2, r3, r4, r5]) rfl ?_
            refine ⟨_, pk, _, rfl, .inr (.inr ⟨by omega, by omega, HC.out, .inl ⟨HOK.out, by rw [HPP.out]; exact HR.out, HPP.out.symm, rfl⟩⟩), ?_, (((((hE8.setCell (p := ⟨w.heap.size, 0, none⟩) (Nat.le_refl _) _).setCell (p := ⟨w.heap.size, 1, none⟩) (Nat.le_refl _) _).setCell (p := ⟨w.heap.size, 2, none⟩) (Nat.le_refl _) _).setCell (p := ⟨w.heap.size, 3, none⟩) (Nat.le_refl _) _).setCell (p := ⟨w.heap.size, 4, none⟩) (Nat.le_refl _) _).setCell (p := ⟨w.heap.size, 5, none⟩) (Nat.le_refl _) _⟩
            have hne := hpo.ne_blk hres8 (by decide)
            exact ⟨_, rfl, (((((hpo.set_far (p := ⟨w.heap.size, 0, none⟩) hne _).set_far (p := ⟨w.heap.size, 1, none⟩) hne _).set_far (p := ⟨w.heap.size, 2, none⟩) hne _).set_far (p := ⟨w.heap.size, 3, none⟩) hne _).set_far (p := ⟨w.heap.size, 4, none⟩) hne _).set_far (p := ⟨w.heap.size, 5, none⟩) hne _⟩
          · have HR := Lib.hid hR
            clear hR

            obtain ⟨r0, r1, r2, r3, r4, r5⟩ := blk6 hres7
            obtain ⟨g0, g1, g2, g3, g4, g5⟩ := blk6f hres7
            go_wp2
            refine bodyPost_ret (v := .tuple #[.agg #[.int .i64 0, .int .i64 0, .int .i64 0, .int .i64 0, .int .i64 0, .slice none 0 0], .int .i64 4]) (by simp [results, Try.results22, go_sem, r0, r1, r2, r3, r4, r5]) rfl ?_
            exact ⟨_, pk0, _, rfl, .inr (.inr ⟨by omega, by omega, HC.out, .inr ⟨fun h => HR.out (by rw [← HPP.out]; exact h.2), rfl, rfl⟩⟩), ⟨_, rfl, OwnV.nil _⟩, (((((hE7.setCell (p := ⟨w.heap.size, 0, none⟩) (Nat.le_refl _) _).setCell (p := ⟨w.heap.size, 1, none⟩) (Nat.le_refl _) _).setCell (p := ⟨w.heap.size, 2, none⟩) (Nat.le_refl _) _).setCell (p := ⟨w.heap.size, 3, none⟩) (Nat.le_refl _) _).setCell (p := ⟨w.heap.size, 4, none⟩) (Nat.le_refl _) _).setCell (p := ⟨w.heap.size, 5, none⟩) (Nat.le_refl _) _⟩
        · have HOK := Lib.hid hok
          clear hok
          obtain ⟨y5, rfl, hpo⟩ := hpk
          obtain ⟨Y5, cy5, rfl, _, _⟩ := hpo.inV
          clear hpo
          simp only [pk0]
          have lt5 := World.block_lt_of_cell? _ _ (blk6 hres5).1
          simp only at lt5
          have hres6 := ((Ext.refl w5).alloc (.cells #[.int .i64 0, .int .i64 0, .int .i64 0, .int .i64 0, .int .i64 0, .slice Y5 0 cy5] 56)).heap hres5
          go_upto_region 9 with fail
          have hE6 := hE5.alloc (.cells #[.int .i64 0, .int .i64 0, .int .i64 0, .int .i64 0, .int .i64 0, .slice Y5 0 cy5] 56)
          generalize w5.alloc (.cells #[.int .i64 0, .int .i64 0, .int .i64 0, .int .i64 0, .int .i64 0, .slice Y5 0 cy5] 56) = w6 at *

          obtain ⟨r0, r1, r2, r3, r4, r5⟩ := blk6 hres6
          obtain ⟨g0, g1, g2, g3, g4, g5⟩ := blk6f hres6
          go_wp2
          refine bodyPost_ret (v := .tuple #[.agg #[.int .i64 0, .int .i64 0, .int .i64 0, .int .i64 0, .int .i64 0, .slice none 0 0], .int .i64 4]) (by simp [results, Try.results22, go_sem, r0, r1, r2, r3, r4, r5]) rfl ?_
          exact ⟨_, pk0, _, rfl, .inr (.inr ⟨by omega, by omega, HC.out, .inr ⟨fun h => HOK.out h.1, rfl, rfl⟩⟩), ⟨_, rfl, OwnV.nil _⟩, (((((hE6.setCell (p := ⟨w.heap.size, 0, none⟩) (Nat.le_refl _) _).setCell (p := ⟨w.heap.size, 1, none⟩) (Nat.le_refl _) _).setCell (p := ⟨w.heap.size, 2, none⟩) (Nat.le_refl _) _).setCell (p := ⟨w.heap.size, 3, none⟩) (Nat.le_refl _) _).setCell (p := ⟨w.heap.size, 4, none⟩) (Nat.le_refl _) _).setCell (p := ⟨w.heap.size, 5, none⟩) (Nat.le_refl _) _⟩
      · have t1 : ((crcL 65535 (b.take n) : Int) != (hb0.toNat : Int) * 256 + (lb0.toNat : Int)) = true := by
          simp only [bne_iff_ne, ne_eq]; omega
        have HC : Hid (¬ crcOK b) := Lib.hid (fun h => hcr (HCR.out.1 h))
        clear hcr HCR
        generalize (hb0.toNat : Int) * 256 + (lb0.toNat : Int) = rhs at *

        obtain ⟨r0, r1, r2, r3, r4, r5⟩ := blk6 hres1
        obtain ⟨g0, g1, g2, g3, g4, g5⟩ := blk6f hres1
        go_wp2
        refine bodyPost_ret (v := .tuple #[.agg #[.int .i64 0, .int .i64 0, .int .i64 0, .int .i64 0, .int .i64 0, .slice none 0 0], .int .i64 28]) (by simp [results, Try.results22, go_sem, r0, r1, r2, r3, r4, r5]) rfl ?_
        exact ⟨_, pk0, _, rfl, .inr (.inl ⟨by omega, .inr HC.out, rfl, rfl⟩), ⟨_, rfl, OwnV.nil _⟩, (((((hE1.setCell (p := ⟨w.heap.size, 0, none⟩) (Nat.le_refl _) _).setCell (p := ⟨w.heap.size, 1, none⟩) (Nat.le_refl _) _).setCell (p := ⟨w.heap.size, 2, none⟩) (Nat.le_refl _) _).setCell (p := ⟨w.heap.size, 3, none⟩) (Nat.le_refl _) _).setCell (p := ⟨w.heap.size, 4, none⟩) (Nat.le_refl _) _).setCell (p := ⟨w.heap.size, 5, none⟩) (Nat.le_refl _) _⟩
end Go.Proofs.Ytnobepobalpccaa
