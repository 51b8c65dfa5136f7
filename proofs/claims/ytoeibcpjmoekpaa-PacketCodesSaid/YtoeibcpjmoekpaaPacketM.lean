/- PacketCodes, walked. -/
import Derived.Test.YtoeibcpjmoekpaaPacketL
import Derived.Test.YtoeibcpjmoekpaaPacketJ
import Derived.Test.YtoeibcpjmoekpaaRegion3
namespace Go.Proofs.Ytoeibcpjmoekpaa
open Go.RowKit
set_option linter.unusedVariables false

/-- one packet of the table -/
def RowP (W : World) (g j : Nat) : Prop := ∃ (p : Pkt) (y : Value), W.cell? ⟨g, j * 6, none⟩ = some (.int .i64 p.kind) ∧ W.cell? ⟨g, j * 6 + 1, none⟩ = some (.int .i64 p.src) ∧ W.cell? ⟨g, j * 6 + 2, none⟩ = some (.int .i64 p.dst) ∧ W.cell? ⟨g, j * 6 + 3, none⟩ = some (.int .i64 p.seq) ∧
  W.cell? ⟨g, j * 6 + 4, none⟩ = some (.int .i64 p.ack) ∧ W.cell? ⟨g, j * 6 + 5, none⟩ = some y ∧ InB W y p.body ∧ p.body.length ≤ 7000
theorem RowP.ext {W W' : World} {g j : Nat} (h : RowP W g j) (he : Ext W W') : RowP W' g j := by
  obtain ⟨p, y, c0, c1, c2, c3, c4, c5, hy, hl⟩ := h
  exact ⟨p, y, he.cell c0, he.cell c1, he.cell c2, he.cell c3, he.cell c4, he.cell c5, hy.ext he, hl⟩
theorem near_len (p : Pkt) (which : Int) (h : p.body.length ≤ 7000) : (nearP p which).body.length ≤ 7000 := by
  have h1 : (p1P p).body.length ≤ 7000 := by
    unfold p1P
    split
    · exact h
    · exact Nat.zero_le _
  unfold nearP swP
  split
  · exact h1
  · split
    · exact h1
    · split
      · exact h1
      · split
        · show ([1] : List UInt8).length ≤ 7000; decide
        · exact h1

set_option maxHeartbeats 4000000 in
set_option maxRecDepth 100000 in
theorem codes_walk (v : Value) (p : Pkt) (which : Int) (w : World) (hp : PktAt w v p) (hl : p.body.length ≤ 9223372036854775807) :
    Calls Try.prog 5 #[v, .int .i64 which] w fun e w' => e = .returned (.bool true) ∧ Ext w w' := by
  have hP := hp
  obtain ⟨y, rfl, ⟨A, c, rfl, hcap, hr⟩⟩ := hp
  have hbod : InB w (.slice A p.body.length c) p.body := InV.mk hcap hr
  go_enter Try.func5, Try.ntmps5
  go_upto_region 1 with fail
  obtain ⟨W, hW, hE, hB⟩ : ∃ W, W = w.alloc (.cells #[.int .i64 p.kind, .int .i64 p.src, .int .i64 p.dst, .int .i64 p.seq, .int .i64 p.ack, .slice A p.body.length c] 39) ∧ Ext w W ∧ W.heap[w.heap.size]? = some (.cells #[.int .i64 p.kind, .int .i64 p.src, .int .i64 p.dst, .int .i64 p.seq, .int .i64 p.ack, .slice A p.body.length c] 39 (0, 0)) :=
    ⟨_, rfl, (Ext.refl w).alloc _, heap_alloc_new w _⟩
  rw [← hW]
  clear hW
  obtain ⟨q0, q1, q2, q3, q4, q5⟩ := blk6 hB
  by_cases h7 : 7000 < p.body.length
  · have h7' : (7000 : Int) < (p.body.length : Int) := by omega
    go_wp2_with fail
    refine (awake33_any W).mono ?_
    rintro e w1 ⟨rfl, he⟩
    go_wp2
    go_ret
    exact ⟨rfl, hE.trans he⟩
  · have h7' : ¬ (7000 : Int) < (p.body.length : Int) := by omega
    have n1 := near_len p which (by omega)
    have n2 := near_len p 11 (by omega)
    go_wp2_with fail
    clear q0 q1 q2 q3 q4 q5
    refine wp_region_X #[true, true, true, true, true, true, true, true, true] 9 0 (by kernel_rfl) rfl ?_
    refine wpX_v 0 (.agg #[.int .i64 p.kind, .int .i64 p.src, .int .i64 p.dst, .int .i64 p.seq, .int .i64 p.ack, .slice A p.body.length c]) rfl rfl (by kernel_rfl) (by kernel_rfl) (by kernel_rfl) (fun _ _ _ _ h => h) (by kernel_rfl) rfl (by rfl) (fun W' hW => by
      obtain ⟨q0, q1, q2, q3, q4, q5⟩ := blk6 ((((Ext.refl W).drew).trans hW).heap hB)
      go_simp) ?_
    simp only [List.setIfInBounds_toArray, List.set_cons_zero, List.set_cons_succ]
    refine wpX_v 1 (.agg #[.int .i64 p.kind, .int .i64 p.src, .int .i64 p.dst, .int .i64 p.seq, .int .i64 p.ack, .slice A p.body.length c]) rfl rfl (by kernel_rfl) (by kernel_rfl) (by kernel_rfl) (fun _ _ _ _ h => h) (by kernel_rfl) rfl (by rfl) (fun W' hW => by
      obtain ⟨q0, q1, q2, q3, q4, q5⟩ := blk6 ((((Ext.refl W).drew).trans hW).heap hB)
      go_simp) ?_
    simp only [List.setIfInBounds_toArray, List.set_cons_zero, List.set_cons_succ]
    refine wpX_v 2 (.int .i64 which) rfl rfl (by kernel_rfl) (by kernel_rfl) (by kernel_rfl) (fun _ _ _ _ h => h) (by kernel_rfl) rfl (by rfl) (fun W' hW => by
      obtain ⟨q0, q1, q2, q3, q4, q5⟩ := blk6 ((((Ext.refl W).drew).trans hW).heap hB)
      go_simp) ?_
    simp only [List.setIfInBounds_toArray, List.set_cons_zero, List.set_cons_succ]
    refine wpX_v 4 (.agg #[.int .i64 p.kind, .int .i64 p.src, .int .i64 p.dst, .int .i64 p.seq, .int .i64 p.ack, .slice A p.body.length c]) rfl rfl (by kernel_rfl) (by kernel_rfl) (by kernel_rfl) (fun _ _ _ _ h => h) (by kernel_rfl) rfl (by rfl) (fun W' hW => by
      obtain ⟨q0, q1, q2, q3, q4, q5⟩ := blk6 ((((Ext.refl W).drew).trans hW).heap hB)
      go_simp) ?_
    simp only [List.setIfInBounds_toArray, List.set_cons_zero, List.set_cons_succ]
    refine wpX_v 8 (.int .i64 0) rfl rfl (by kernel_rfl) (by kernel_rfl) (by kernel_rfl) (fun _ _ _ _ h => h) (by kernel_rfl) rfl (by rfl) (fun W' hW => by
      obtain ⟨q0, q1, q2, q3, q4, q5⟩ := blk6 ((((Ext.refl W).drew).trans hW).heap hB)
      go_simp) ?_
    simp only [List.setIfInBounds_toArray, List.set_cons_zero, List.set_cons_succ]
    refine wpX_c 3 22 #[.agg #[.int .i64 p.kind, .int .i64 p.src, .int .i64 p.dst, .int .i64 p.seq, .int .i64 p.ack, .slice A p.body.length c], .int .i64 which] rfl rfl (by kernel_rfl) rfl rfl (fun W => by go_simp) ?_
    intro W3 hW3
    refine (near_any _ p which W3 (hP.ext (hE.trans (((Ext.refl W).drew).trans hW3)))).mono ?_
    rintro e w3 ⟨v3, rfl, ⟨y3, rfl, hy3⟩, he3⟩
    refine ⟨_, rfl, he3, ?_⟩
    simp only [List.setIfInBounds_toArray, List.set_cons_zero, List.set_cons_succ]
    refine wpX_c 5 22 #[.agg #[.int .i64 p.kind, .int .i64 p.src, .int .i64 p.dst, .int .i64 p.seq, .int .i64 p.ack, .slice A p.body.length c], .int .i64 11] rfl rfl (by kernel_rfl) rfl rfl (fun W => by go_simp) ?_
    intro W5 hW5
    refine (near_any _ p 11 W5 (hP.ext (hE.trans (((((Ext.refl W).drew).trans hW3).trans he3).trans hW5)))).mono ?_
    rintro e w5 ⟨v5, rfl, ⟨y5, rfl, hy5⟩, he5⟩
    refine ⟨_, rfl, he5, ?_⟩
    simp only [List.setIfInBounds_toArray, List.set_cons_zero, List.set_cons_succ]
    have hE5 : Ext w w5 := hE.trans ((((((Ext.refl W).drew).trans hW3).trans he3).trans hW5).trans he5)
    have hy35 := hy3.ext (hW5.trans he5)
    obtain ⟨Y3, c3, rfl, _, _⟩ := id hy35
    obtain ⟨Y5, c5, rfl, _, _⟩ := id hy5
    generalize nearP p which = p1 at *
    generalize nearP p 11 = p2 at *
    clear hy3 he3 he5 hW3 hW5
    refine wpX_m 6 rfl rfl (by kernel_rfl) rfl (by rfl) fun W6 hW6 => ?_
    refine ⟨.slice (some ⟨W6.heap.size, 0, none⟩) 3 3, W6.alloc (.cells #[.int .i64 p.kind, .int .i64 p.src, .int .i64 p.dst, .int .i64 p.seq, .int .i64 p.ack, .slice A p.body.length c, .int .i64 p1.kind, .int .i64 p1.src, .int .i64 p1.dst, .int .i64 p1.seq, .int .i64 p1.ack, .slice Y3 p1.body.length c3, .int .i64 p2.kind, .int .i64 p2.src, .int .i64 p2.dst, .int .i64 p2.seq, .int .i64 p2.ack, .slice Y5 p2.body.length c5] 39), by go_simp, (Ext.refl W6).alloc _, ?_⟩
    simp only [List.setIfInBounds_toArray, List.set_cons_zero, List.set_cons_succ]
    have hb6 := heap_alloc_new W6 (.cells #[.int .i64 p.kind, .int .i64 p.src, .int .i64 p.dst, .int .i64 p.seq, .int .i64 p.ack, .slice A p.body.length c, .int .i64 p1.kind, .int .i64 p1.src, .int .i64 p1.dst, .int .i64 p1.seq, .int .i64 p1.ack, .slice Y3 p1.body.length c3, .int .i64 p2.kind, .int .i64 p2.src, .int .i64 p2.dst, .int .i64 p2.seq, .int .i64 p2.ack, .slice Y5 p2.body.length c5] 39)
    have hE6 := (hE5.trans hW6).trans ((Ext.refl W6).alloc (.cells #[.int .i64 p.kind, .int .i64 p.src, .int .i64 p.dst, .int .i64 p.seq, .int .i64 p.ack, .slice A p.body.length c, .int .i64 p1.kind, .int .i64 p1.src, .int .i64 p1.dst, .int .i64 p1.seq, .int .i64 p1.ack, .slice Y3 p1.body.length c3, .int .i64 p2.kind, .int .i64 p2.src, .int .i64 p2.dst, .int .i64 p2.seq, .int .i64 p2.ack, .slice Y5 p2.body.length c5] 39))
    have i1 := hbod.ext hE6
    have i2 := hy35.ext (hW6.trans ((Ext.refl W6).alloc (.cells #[.int .i64 p.kind, .int .i64 p.src, .int .i64 p.dst, .int .i64 p.seq, .int .i64 p.ack, .slice A p.body.length c, .int .i64 p1.kind, .int .i64 p1.src, .int .i64 p1.dst, .int .i64 p1.seq, .int .i64 p1.ack, .slice Y3 p1.body.length c3, .int .i64 p2.kind, .int .i64 p2.src, .int .i64 p2.dst, .int .i64 p2.seq, .int .i64 p2.ack, .slice Y5 p2.body.length c5] 39)))
    have i3 := hy5.ext (hW6.trans ((Ext.refl W6).alloc (.cells #[.int .i64 p.kind, .int .i64 p.src, .int .i64 p.dst, .int .i64 p.seq, .int .i64 p.ack, .slice A p.body.length c, .int .i64 p1.kind, .int .i64 p1.src, .int .i64 p1.dst, .int .i64 p1.seq, .int .i64 p1.ack, .slice Y3 p1.body.length c3, .int .i64 p2.kind, .int .i64 p2.src, .int .i64 p2.dst, .int .i64 p2.seq, .int .i64 p2.ack, .slice Y5 p2.body.length c5] 39)))
    generalize W6.alloc (.cells #[.int .i64 p.kind, .int .i64 p.src, .int .i64 p.dst, .int .i64 p.seq, .int .i64 p.ack, .slice A p.body.length c, .int .i64 p1.kind, .int .i64 p1.src, .int .i64 p1.dst, .int .i64 p1.seq, .int .i64 p1.ack, .slice Y3 p1.body.length c3, .int .i64 p2.kind, .int .i64 p2.src, .int .i64 p2.dst, .int .i64 p2.seq, .int .i64 p2.ack, .slice Y5 p2.body.length c5] 39) = w6 at *
    generalize W6.heap.size = gr at *
    clear hW6
    refine wpX_v 7 (.int .i64 3) rfl rfl (by kernel_rfl) (by kernel_rfl) (by kernel_rfl) (fun _ _ _ _ h => h) (by kernel_rfl) rfl (by rfl) (fun W' hW => by go_simp) ?_
    simp only [List.setIfInBounds_toArray, List.set_cons_zero, List.set_cons_succ]
    refine wpX_end rfl fun w7 hE7 => ?_
    refine tail_none (by kernel_rfl) ?_
    refine NoPanic.normal ?_
    have hR : ∀ j, j < 3 → RowP w7 gr j := by
      intro j hj
      have hb7 := hE7.heap hb6
      rcases (show j = 0 ∨ j = 1 ∨ j = 2 by omega) with rfl | rfl | rfl
      · exact ⟨p, _, blk_at hb7 0 _ rfl, blk_at hb7 1 _ rfl, blk_at hb7 2 _ rfl, blk_at hb7 3 _ rfl, blk_at hb7 4 _ rfl, blk_at hb7 5 _ rfl, i1.ext hE7, by omega⟩
      · exact ⟨p1, _, blk_at hb7 6 _ rfl, blk_at hb7 7 _ rfl, blk_at hb7 8 _ rfl, blk_at hb7 9 _ rfl, blk_at hb7 10 _ rfl, blk_at hb7 11 _ rfl, i2.ext hE7, n1⟩
      · exact ⟨p2, _, blk_at hb7 12 _ rfl, blk_at hb7 13 _ rfl, blk_at hb7 14 _ rfl, blk_at hb7 15 _ rfl, blk_at hb7 16 _ rfl, blk_at hb7 17 _ rfl, i3.ext hE7, n2⟩
    have hEw := hE6.trans hE7
    have HR := Lib.hid hR
    clear hR hb6 i1 i2 i3 hE6 hE7 hE5 hy35 hy5
    go_wp2_with fail
    go_loopw [26] (fun i wr => ∃ j : Nat, j ≤ 3 ∧ i = .int .i64 (j : Int) ∧ Ext w7 wr) (fun i _ => 3 - (intOf i).toNat)
    case atStart => exact ⟨0, by omega, rfl, Ext.refl w7⟩
    case round =>
      obtain ⟨j, hj, rfl, hE8⟩ := hrel
      obtain ⟨wo, rfl⟩ : ∃ wo : World, wo = wr := ⟨_, rfl⟩
      by_cases hj3 : j < 3
      · obtain ⟨x, yx, d0, d1, d2, d3, d4, d5, ix, lx⟩ := (HR.out j hj3).ext hE8
        have hij : (j : Int) < 3 := by omega
        obtain ⟨X, cx, rfl, _, _⟩ := id ix
        go_wp2_with fail
        have hbx := heap_alloc_new wo (.cells #[.int .i64 x.kind, .int .i64 x.src, .int .i64 x.dst, .int .i64 x.seq, .int .i64 x.ack, .slice X x.body.length cx] 39)
        have hex := (Ext.refl wo).alloc (.cells #[.int .i64 x.kind, .int .i64 x.src, .int .i64 x.dst, .int .i64 x.seq, .int .i64 x.ack, .slice X x.body.length cx] 39)
        generalize wo.alloc (.cells #[.int .i64 x.kind, .int .i64 x.src, .int .i64 x.dst, .int .i64 x.seq, .int .i64 x.ack, .slice X x.body.length cx] 39) = wx at *
        generalize wo.heap.size = gx at *
        have PX : PktAt wx (.agg #[.int .i64 x.kind, .int .i64 x.src, .int .i64 x.dst, .int .i64 x.seq, .int .i64 x.ack, .slice X x.body.length cx]) x := ⟨_, rfl, ix.ext hex⟩
        have hEx := hE8.trans hex
        clear hex hE8 ix d0 d1 d2 d3 d4 d5
        refine (Encode_any _ x wx PX (by omega)).mono ?_
        rintro e w9 ⟨y9, er9, rfl, hc9, he9⟩
        have hb9 := he9.heap hbx
        obtain ⟨q0, q1, q2, q3, q4, q5⟩ := blk6 hb9
        have hy9 : ∃ Y c, y9 = .slice Y (if er9 = 0 then (encP x).length else 0) c := by
          rcases hc9 with ⟨_, rfl, ho⟩ | ⟨_, rfl, rfl⟩
          · obtain ⟨Y, c, rfl, _, _⟩ := ho.inV; exact ⟨Y, c, rfl⟩
          · exact ⟨_, _, rfl⟩
        go_wp2_with fail
        refine (refEncode_any _ x w9 (PX.ext he9) (by omega)).mono ?_
        rintro e w10 ⟨y10, er10, rfl, hc10, he10⟩
        have hb10 := he10.heap hb9
        have hE10 := (hEx.trans he9).trans he10
        replace PX := PX.ext (he9.trans he10)
        clear q0 q1 q2 q3 q4 q5 hb9 hbx hEx hy9
        rcases hc9 with ⟨hR, rfl, ho9⟩ | ⟨hR, rfl, rfl⟩
        · rcases hc10 with ⟨_, rfl, ho10⟩ | ⟨hR', _, _⟩
          · have HR1 := Lib.hid hR
            have HL := Lib.hid (enc_len hR)
            clear hR
            have ia : InB w10 y9 (encP x) := ho9.inV.ext he10
            have ib : InB w10 y10 (encP x) := ho10.inV
            have HDO : Hid (∀ q er, DecIs (encP x) q er → q = x ∧ er = 0) := Lib.hid fun q er h => dec_own HR1.out h
            clear ho9 ho10 he9 he10
            generalize encP x = en at *
            obtain ⟨Y9, c9, rfl, _, _⟩ := id ia
            obtain ⟨Y10, c10, rfl, _, _⟩ := id ib
            go_wp2_with fail
            refine wp_region_X #[true, true, true, true, true, true, true, true, true, true, true, true, true, true, true, true, true] 17 0 (by kernel_rfl) rfl ?_
            have neq : (en != en) = false := by simp
            refine wpX_v 0 (.int .i64 0) rfl rfl (by kernel_rfl) (by kernel_rfl) (by kernel_rfl) (fun _ _ _ _ h => h) (by kernel_rfl) rfl (by rfl) (fun W hW => by
              obtain ⟨q0, q1, q2, q3, q4, q5⟩ := blk6 ((((Ext.refl w10).drew).trans hW).heap hb10)
              have hs1 := strB (ia.ext (((Ext.refl w10).drew).trans hW))
              have hs2 := strB (ib.ext (((Ext.refl w10).drew).trans hW))
              go_simp) ?_
            simp only [List.setIfInBounds_toArray, List.set_cons_zero, List.set_cons_succ]
            refine wpX_v 1 (.int .i64 0) rfl rfl (by kernel_rfl) (by kernel_rfl) (by kernel_rfl) (fun _ _ _ _ h => h) (by kernel_rfl) rfl (by rfl) (fun W hW => by
              obtain ⟨q0, q1, q2, q3, q4, q5⟩ := blk6 ((((Ext.refl w10).drew).trans hW).heap hb10)
              have hs1 := strB (ia.ext (((Ext.refl w10).drew).trans hW))
              have hs2 := strB (ib.ext (((Ext.refl w10).drew).trans hW))
              go_simp) ?_
            simp only [List.setIfInBounds_toArray, List.set_cons_zero, List.set_cons_succ]
            refine wpX_v 2 (.bool false) rfl rfl (by kernel_rfl) (by kernel_rfl) (by kernel_rfl) (fun _ _ _ _ h => h) (by kernel_rfl) rfl (by rfl) (fun W hW => by
              obtain ⟨q0, q1, q2, q3, q4, q5⟩ := blk6 ((((Ext.refl w10).drew).trans hW).heap hb10)
              have hs1 := strB (ia.ext (((Ext.refl w10).drew).trans hW))
              have hs2 := strB (ib.ext (((Ext.refl w10).drew).trans hW))
              go_simp) ?_
            simp only [List.setIfInBounds_toArray, List.set_cons_zero, List.set_cons_succ]
            refine wpX_v 3 (.bool false) rfl rfl (by kernel_rfl) (by kernel_rfl) (by kernel_rfl) (fun _ _ _ _ h => h) (by kernel_rfl) rfl (by rfl) (fun W hW => by
              obtain ⟨q0, q1, q2, q3, q4, q5⟩ := blk6 ((((Ext.refl w10).drew).trans hW).heap hb10)
              have hs1 := strB (ia.ext (((Ext.refl w10).drew).trans hW))
              have hs2 := strB (ib.ext (((Ext.refl w10).drew).trans hW))
              go_simp) ?_
            simp only [List.setIfInBounds_toArray, List.set_cons_zero, List.set_cons_succ]
            refine wpX_v 4 (.slice Y9 en.length c9) rfl rfl (by kernel_rfl) (by kernel_rfl) (by kernel_rfl) (fun _ _ _ _ h => h) (by kernel_rfl) rfl (by rfl) (fun W hW => by
              obtain ⟨q0, q1, q2, q3, q4, q5⟩ := blk6 ((((Ext.refl w10).drew).trans hW).heap hb10)
              have hs1 := strB (ia.ext (((Ext.refl w10).drew).trans hW))
              have hs2 := strB (ib.ext (((Ext.refl w10).drew).trans hW))
              go_simp) ?_
            simp only [List.setIfInBounds_toArray, List.set_cons_zero, List.set_cons_succ]
            refine wpX_v 5 (.string ⟨(en).toArray⟩) rfl rfl (by kernel_rfl) (by kernel_rfl) (by kernel_rfl) (fun _ _ _ _ h => h) (by kernel_rfl) rfl (by rfl) (fun W hW => by
              obtain ⟨q0, q1, q2, q3, q4, q5⟩ := blk6 ((((Ext.refl w10).drew).trans hW).heap hb10)
              have hs1 := strB (ia.ext (((Ext.refl w10).drew).trans hW))
              have hs2 := strB (ib.ext (((Ext.refl w10).drew).trans hW))
              go_simp) ?_
            simp only [List.setIfInBounds_toArray, List.set_cons_zero, List.set_cons_succ]
            refine wpX_v 6 (.slice Y10 en.length c10) rfl rfl (by kernel_rfl) (by kernel_rfl) (by kernel_rfl) (fun _ _ _ _ h => h) (by kernel_rfl) rfl (by rfl) (fun W hW => by
              obtain ⟨q0, q1, q2, q3, q4, q5⟩ := blk6 ((((Ext.refl w10).drew).trans hW).heap hb10)
              have hs1 := strB (ia.ext (((Ext.refl w10).drew).trans hW))
              have hs2 := strB (ib.ext (((Ext.refl w10).drew).trans hW))
              go_simp) ?_
            simp only [List.setIfInBounds_toArray, List.set_cons_zero, List.set_cons_succ]
            refine wpX_v 7 (.string ⟨(en).toArray⟩) rfl rfl (by kernel_rfl) (by kernel_rfl) (by kernel_rfl) (fun _ _ _ _ h => h) (by kernel_rfl) rfl (by rfl) (fun W hW => by
              obtain ⟨q0, q1, q2, q3, q4, q5⟩ := blk6 ((((Ext.refl w10).drew).trans hW).heap hb10)
              have hs1 := strB (ia.ext (((Ext.refl w10).drew).trans hW))
              have hs2 := strB (ib.ext (((Ext.refl w10).drew).trans hW))
              go_simp) ?_
            simp only [List.setIfInBounds_toArray, List.set_cons_zero, List.set_cons_succ]
            refine wpX_v 8 (.bool false) rfl rfl (by kernel_rfl) (by kernel_rfl) (by kernel_rfl) (fun _ _ _ _ h => h) (by kernel_rfl) rfl (by rfl) (fun W hW => by
              obtain ⟨q0, q1, q2, q3, q4, q5⟩ := blk6 ((((Ext.refl w10).drew).trans hW).heap hb10)
              have hs1 := strB (ia.ext (((Ext.refl w10).drew).trans hW))
              have hs2 := strB (ib.ext (((Ext.refl w10).drew).trans hW))
              go_simp) ?_
            simp only [List.setIfInBounds_toArray, List.set_cons_zero, List.set_cons_succ]
            refine wpX_v 9 (.bool false) rfl rfl (by kernel_rfl) (by kernel_rfl) (by kernel_rfl) (fun _ _ _ _ h => h) (by kernel_rfl) rfl (by rfl) (fun W hW => by
              obtain ⟨q0, q1, q2, q3, q4, q5⟩ := blk6 ((((Ext.refl w10).drew).trans hW).heap hb10)
              have hs1 := strB (ia.ext (((Ext.refl w10).drew).trans hW))
              have hs2 := strB (ib.ext (((Ext.refl w10).drew).trans hW))
              go_simp) ?_
            simp only [List.setIfInBounds_toArray, List.set_cons_zero, List.set_cons_succ]
            refine wpX_v 10 (.bool false) rfl rfl (by kernel_rfl) (by kernel_rfl) (by kernel_rfl) (fun _ _ _ _ h => h) (by kernel_rfl) rfl (by rfl) (fun W hW => by
              obtain ⟨q0, q1, q2, q3, q4, q5⟩ := blk6 ((((Ext.refl w10).drew).trans hW).heap hb10)
              have hs1 := strB (ia.ext (((Ext.refl w10).drew).trans hW))
              have hs2 := strB (ib.ext (((Ext.refl w10).drew).trans hW))
              go_simp) ?_
            simp only [List.setIfInBounds_toArray, List.set_cons_zero, List.set_cons_succ]
            refine wpX_v 11 (.agg #[.int .i64 x.kind, .int .i64 x.src, .int .i64 x.dst, .int .i64 x.seq, .int .i64 x.ack, .slice X x.body.length cx]) rfl rfl (by kernel_rfl) (by kernel_rfl) (by kernel_rfl) (fun _ _ _ _ h => h) (by kernel_rfl) rfl (by rfl) (fun W hW => by
              obtain ⟨q0, q1, q2, q3, q4, q5⟩ := blk6 ((((Ext.refl w10).drew).trans hW).heap hb10)
              have hs1 := strB (ia.ext (((Ext.refl w10).drew).trans hW))
              have hs2 := strB (ib.ext (((Ext.refl w10).drew).trans hW))
              go_simp) ?_
            simp only [List.setIfInBounds_toArray, List.set_cons_zero, List.set_cons_succ]
            refine wpX_v 13 (.agg #[.int .i64 x.kind, .int .i64 x.src, .int .i64 x.dst, .int .i64 x.seq, .int .i64 x.ack, .slice X x.body.length cx]) rfl rfl (by kernel_rfl) (by kernel_rfl) (by kernel_rfl) (fun _ _ _ _ h => h) (by kernel_rfl) rfl (by rfl) (fun W hW => by
              obtain ⟨q0, q1, q2, q3, q4, q5⟩ := blk6 ((((Ext.refl w10).drew).trans hW).heap hb10)
              have hs1 := strB (ia.ext (((Ext.refl w10).drew).trans hW))
              have hs2 := strB (ib.ext (((Ext.refl w10).drew).trans hW))
              go_simp) ?_
            simp only [List.setIfInBounds_toArray, List.set_cons_zero, List.set_cons_succ]
            refine wpX_cg 12 25 #[.agg #[.int .i64 x.kind, .int .i64 x.src, .int .i64 x.dst, .int .i64 x.seq, .int .i64 x.ack, .slice X x.body.length cx]] rfl rfl (by kernel_rfl) rfl (by rfl) (fun W => by go_simp) ?_
            intro W12 hW12
            refine (Right_any _ x W12 (PX.ext (((Ext.refl w10).drew).trans hW12)) (by omega)).mono ?_
            rintro e w12 ⟨r12, rfl, hr12, he12⟩
            refine ⟨_, rfl, he12, ?_⟩
            simp only [List.setIfInBounds_toArray, List.set_cons_zero, List.set_cons_succ]
            refine wpX_cg 14 26 #[.agg #[.int .i64 x.kind, .int .i64 x.src, .int .i64 x.dst, .int .i64 x.seq, .int .i64 x.ack, .slice X x.body.length cx]] rfl rfl (by kernel_rfl) rfl (by rfl) (fun W => by go_simp) ?_
            intro W14 hW14
            refine (refRight_any _ x W14 (PX.ext (((((Ext.refl w10).drew).trans hW12).trans he12).trans hW14)) (by omega)).mono ?_
            rintro e w13 ⟨r14, rfl, hr14, he14⟩
            refine ⟨_, rfl, he14, ?_⟩
            obtain rfl : r14 = r12 := by cases r14 <;> cases r12 <;> simp_all
            have hE1013 : Ext w10 w13 := (((((Ext.refl w10).drew).trans hW12).trans he12).trans hW14).trans he14
            have nb : (r14 != r14) = false := by cases r14 <;> rfl
            clear hr12 hr14 hW12 he12 hW14 he14
            simp only [List.setIfInBounds_toArray, List.set_cons_zero, List.set_cons_succ]
            refine wpX_v 15 (.bool false) rfl rfl (by kernel_rfl) (by kernel_rfl) (by kernel_rfl) (fun _ _ _ _ h => h) (by kernel_rfl) rfl (by rfl) (fun W hW => by go_simp) ?_
            simp only [List.setIfInBounds_toArray, List.set_cons_zero, List.set_cons_succ]
            refine wpX_v 16 (.bool false) rfl rfl (by kernel_rfl) (by kernel_rfl) (by kernel_rfl) (fun _ _ _ _ h => h) (by kernel_rfl) rfl (by rfl) (fun W hW => by go_simp) ?_
            simp only [List.setIfInBounds_toArray, List.set_cons_zero, List.set_cons_succ]
            refine wpX_end rfl fun w14 hE14 => ?_
            refine tail_none (by kernel_rfl) ?_
            refine NoPanic.normal ?_
            have hE1014 := hE1013.trans hE14
            clear hE1013 hE14 nb neq
            go_wp2_with fail
            refine (Decode_any _ en w14 (ib.ext hE1014) (by have := HL.out; omega)).mono ?_
            rintro e w15 ⟨v15, p15, er15, rfl, hd15, hpo, he15⟩
            obtain ⟨rfl, rfl⟩ := HDO.out _ _ hd15
            have hP15 := PX.ext (hE1014.trans he15)
            have hb15 := he15.heap (hE1014.heap hb10)
            have hE15 := (hE10.trans hE1014).trans he15
            obtain ⟨yy, rfl, hyo⟩ := hpo
            obtain ⟨YY, cyy, rfl, _, _⟩ := hyo.inV
            have hQ15 : PktAt w15 (.agg #[.int .i64 p15.kind, .int .i64 p15.src, .int .i64 p15.dst, .int .i64 p15.seq, .int .i64 p15.ack, .slice YY p15.body.length cyy]) p15 := ⟨_, rfl, hyo.inV⟩
            clear hd15 he15 hyo hE1014 ia ib hb10 PX HDO HR1 hE10
            obtain ⟨q0, q1, q2, q3, q4, q5⟩ := blk6 hb15
            have lt15 := World.block_lt_of_cell? _ _ q0
            simp only at lt15
            go_wp2_with fail
            have hex := (Ext.refl w15).alloc (.cells #[.int .i64 p15.kind, .int .i64 p15.src, .int .i64 p15.dst, .int .i64 p15.seq, .int .i64 p15.ack, .slice YY p15.body.length cyy] 39)
            generalize w15.alloc (.cells #[.int .i64 p15.kind, .int .i64 p15.src, .int .i64 p15.dst, .int .i64 p15.seq, .int .i64 p15.ack, .slice YY p15.body.length cyy] 39) = w16 at *
            refine (Same_any _ _ p15 p15 w16 (hP15.ext hex) (hQ15.ext hex)).mono ?_
            rintro e w17 ⟨r17, rfl, hr17, he17⟩
            obtain rfl : r17 = true := hr17.2 rfl
            have hE17 := (hE15.trans hex).trans he17
            clear hr17 hex he17 hP15 hQ15 hb15 q0 q1 q2 q3 q4 q5 lt15
            go_wp2_with fail
            go_roundw
            case rel => exact ⟨j + 1, by omega, by go_num, hE17⟩
            case measure => simp [intOf]; omega
          · exact absurd hR hR'
        · rcases hc10 with ⟨hR', _, _⟩ | ⟨_, rfl, rfl⟩
          · exact absurd hR' hR
          · have ia : InB w10 (.slice none 0 0) ([] : List UInt8) := InV.nil w10
            have ib : InB w10 (.slice none 0 0) ([] : List UInt8) := InV.nil w10
            clear he9 he10
            go_wp2_with fail
            refine wp_region_X #[true, true, true, true, true, true, true, true, true, true, true, true, true, true, true, true, true] 17 0 (by kernel_rfl) rfl ?_
            have neq : (([] : List UInt8) != ([] : List UInt8)) = false := by simp
            refine wpX_v 0 (.int .i64 1) rfl rfl (by kernel_rfl) (by kernel_rfl) (by kernel_rfl) (fun _ _ _ _ h => h) (by kernel_rfl) rfl (by rfl) (fun W hW => by
              obtain ⟨q0, q1, q2, q3, q4, q5⟩ := blk6 ((((Ext.refl w10).drew).trans hW).heap hb10)
              have hs1 := strB (ia.ext (((Ext.refl w10).drew).trans hW))
              have hs2 := strB (ib.ext (((Ext.refl w10).drew).trans hW))
              go_simp) ?_
            simp only [List.setIfInBounds_toArray, List.set_cons_zero, List.set_cons_succ]
            refine wpX_v 1 (.int .i64 1) rfl rfl (by kernel_rfl) (by kernel_rfl) (by kernel_rfl) (fun _ _ _ _ h => h) (by kernel_rfl) rfl (by rfl) (fun W hW => by
              obtain ⟨q0, q1, q2, q3, q4, q5⟩ := blk6 ((((Ext.refl w10).drew).trans hW).heap hb10)
              have hs1 := strB (ia.ext (((Ext.refl w10).drew).trans hW))
              have hs2 := strB (ib.ext (((Ext.refl w10).drew).trans hW))
              go_simp) ?_
            simp only [List.setIfInBounds_toArray, List.set_cons_zero, List.set_cons_succ]
            refine wpX_v 2 (.bool false) rfl rfl (by kernel_rfl) (by kernel_rfl) (by kernel_rfl) (fun _ _ _ _ h => h) (by kernel_rfl) rfl (by rfl) (fun W hW => by
              obtain ⟨q0, q1, q2, q3, q4, q5⟩ := blk6 ((((Ext.refl w10).drew).trans hW).heap hb10)
              have hs1 := strB (ia.ext (((Ext.refl w10).drew).trans hW))
              have hs2 := strB (ib.ext (((Ext.refl w10).drew).trans hW))
              go_simp) ?_
            simp only [List.setIfInBounds_toArray, List.set_cons_zero, List.set_cons_succ]
            refine wpX_v 3 (.bool false) rfl rfl (by kernel_rfl) (by kernel_rfl) (by kernel_rfl) (fun _ _ _ _ h => h) (by kernel_rfl) rfl (by rfl) (fun W hW => by
              obtain ⟨q0, q1, q2, q3, q4, q5⟩ := blk6 ((((Ext.refl w10).drew).trans hW).heap hb10)
              have hs1 := strB (ia.ext (((Ext.refl w10).drew).trans hW))
              have hs2 := strB (ib.ext (((Ext.refl w10).drew).trans hW))
              go_simp) ?_
            simp only [List.setIfInBounds_toArray, List.set_cons_zero, List.set_cons_succ]
            refine wpX_v 4 (.slice none 0 0) rfl rfl (by kernel_rfl) (by kernel_rfl) (by kernel_rfl) (fun _ _ _ _ h => h) (by kernel_rfl) rfl (by rfl) (fun W hW => by
              obtain ⟨q0, q1, q2, q3, q4, q5⟩ := blk6 ((((Ext.refl w10).drew).trans hW).heap hb10)
              have hs1 := strB (ia.ext (((Ext.refl w10).drew).trans hW))
              have hs2 := strB (ib.ext (((Ext.refl w10).drew).trans hW))
              go_simp) ?_
            simp only [List.setIfInBounds_toArray, List.set_cons_zero, List.set_cons_succ]
            refine wpX_v 5 (.string ⟨(([] : List UInt8)).toArray⟩) rfl rfl (by kernel_rfl) (by kernel_rfl) (by kernel_rfl) (fun _ _ _ _ h => h) (by kernel_rfl) rfl (by rfl) (fun W hW => by
              obtain ⟨q0, q1, q2, q3, q4, q5⟩ := blk6 ((((Ext.refl w10).drew).trans hW).heap hb10)
              have hs1 := strB (ia.ext (((Ext.refl w10).drew).trans hW))
              have hs2 := strB (ib.ext (((Ext.refl w10).drew).trans hW))
              go_simp) ?_
            simp only [List.setIfInBounds_toArray, List.set_cons_zero, List.set_cons_succ]
            refine wpX_v 6 (.slice none 0 0) rfl rfl (by kernel_rfl) (by kernel_rfl) (by kernel_rfl) (fun _ _ _ _ h => h) (by kernel_rfl) rfl (by rfl) (fun W hW => by
              obtain ⟨q0, q1, q2, q3, q4, q5⟩ := blk6 ((((Ext.refl w10).drew).trans hW).heap hb10)
              have hs1 := strB (ia.ext (((Ext.refl w10).drew).trans hW))
              have hs2 := strB (ib.ext (((Ext.refl w10).drew).trans hW))
              go_simp) ?_
            simp only [List.setIfInBounds_toArray, List.set_cons_zero, List.set_cons_succ]
            refine wpX_v 7 (.string ⟨(([] : List UInt8)).toArray⟩) rfl rfl (by kernel_rfl) (by kernel_rfl) (by kernel_rfl) (fun _ _ _ _ h => h) (by kernel_rfl) rfl (by rfl) (fun W hW => by
              obtain ⟨q0, q1, q2, q3, q4, q5⟩ := blk6 ((((Ext.refl w10).drew).trans hW).heap hb10)
              have hs1 := strB (ia.ext (((Ext.refl w10).drew).trans hW))
              have hs2 := strB (ib.ext (((Ext.refl w10).drew).trans hW))
              go_simp) ?_
            simp only [List.setIfInBounds_toArray, List.set_cons_zero, List.set_cons_succ]
            refine wpX_v 8 (.bool false) rfl rfl (by kernel_rfl) (by kernel_rfl) (by kernel_rfl) (fun _ _ _ _ h => h) (by kernel_rfl) rfl (by rfl) (fun W hW => by
              obtain ⟨q0, q1, q2, q3, q4, q5⟩ := blk6 ((((Ext.refl w10).drew).trans hW).heap hb10)
              have hs1 := strB (ia.ext (((Ext.refl w10).drew).trans hW))
              have hs2 := strB (ib.ext (((Ext.refl w10).drew).trans hW))
              go_simp) ?_
            simp only [List.setIfInBounds_toArray, List.set_cons_zero, List.set_cons_succ]
            refine wpX_v 9 (.bool false) rfl rfl (by kernel_rfl) (by kernel_rfl) (by kernel_rfl) (fun _ _ _ _ h => h) (by kernel_rfl) rfl (by rfl) (fun W hW => by
              obtain ⟨q0, q1, q2, q3, q4, q5⟩ := blk6 ((((Ext.refl w10).drew).trans hW).heap hb10)
              have hs1 := strB (ia.ext (((Ext.refl w10).drew).trans hW))
              have hs2 := strB (ib.ext (((Ext.refl w10).drew).trans hW))
              go_simp) ?_
            simp only [List.setIfInBounds_toArray, List.set_cons_zero, List.set_cons_succ]
            refine wpX_v 10 (.bool false) rfl rfl (by kernel_rfl) (by kernel_rfl) (by kernel_rfl) (fun _ _ _ _ h => h) (by kernel_rfl) rfl (by rfl) (fun W hW => by
              obtain ⟨q0, q1, q2, q3, q4, q5⟩ := blk6 ((((Ext.refl w10).drew).trans hW).heap hb10)
              have hs1 := strB (ia.ext (((Ext.refl w10).drew).trans hW))
              have hs2 := strB (ib.ext (((Ext.refl w10).drew).trans hW))
              go_simp) ?_
            simp only [List.setIfInBounds_toArray, List.set_cons_zero, List.set_cons_succ]
            refine wpX_v 11 (.agg #[.int .i64 x.kind, .int .i64 x.src, .int .i64 x.dst, .int .i64 x.seq, .int .i64 x.ack, .slice X x.body.length cx]) rfl rfl (by kernel_rfl) (by kernel_rfl) (by kernel_rfl) (fun _ _ _ _ h => h) (by kernel_rfl) rfl (by rfl) (fun W hW => by
              obtain ⟨q0, q1, q2, q3, q4, q5⟩ := blk6 ((((Ext.refl w10).drew).trans hW).heap hb10)
              have hs1 := strB (ia.ext (((Ext.refl w10).drew).trans hW))
              have hs2 := strB (ib.ext (((Ext.refl w10).drew).trans hW))
              go_simp) ?_
            simp only [List.setIfInBounds_toArray, List.set_cons_zero, List.set_cons_succ]
            refine wpX_v 13 (.agg #[.int .i64 x.kind, .int .i64 x.src, .int .i64 x.dst, .int .i64 x.seq, .int .i64 x.ack, .slice X x.body.length cx]) rfl rfl (by kernel_rfl) (by kernel_rfl) (by kernel_rfl) (fun _ _ _ _ h => h) (by kernel_rfl) rfl (by rfl) (fun W hW => by
              obtain ⟨q0, q1, q2, q3, q4, q5⟩ := blk6 ((((Ext.refl w10).drew).trans hW).heap hb10)
              have hs1 := strB (ia.ext (((Ext.refl w10).drew).trans hW))
              have hs2 := strB (ib.ext (((Ext.refl w10).drew).trans hW))
              go_simp) ?_
            simp only [List.setIfInBounds_toArray, List.set_cons_zero, List.set_cons_succ]
            refine wpX_cg 12 25 #[.agg #[.int .i64 x.kind, .int .i64 x.src, .int .i64 x.dst, .int .i64 x.seq, .int .i64 x.ack, .slice X x.body.length cx]] rfl rfl (by kernel_rfl) rfl (by rfl) (fun W => by go_simp) ?_
            intro W12 hW12
            refine (Right_any _ x W12 (PX.ext (((Ext.refl w10).drew).trans hW12)) (by omega)).mono ?_
            rintro e w12 ⟨r12, rfl, hr12, he12⟩
            refine ⟨_, rfl, he12, ?_⟩
            simp only [List.setIfInBounds_toArray, List.set_cons_zero, List.set_cons_succ]
            refine wpX_cg 14 26 #[.agg #[.int .i64 x.kind, .int .i64 x.src, .int .i64 x.dst, .int .i64 x.seq, .int .i64 x.ack, .slice X x.body.length cx]] rfl rfl (by kernel_rfl) rfl (by rfl) (fun W => by go_simp) ?_
            intro W14 hW14
            refine (refRight_any _ x W14 (PX.ext (((((Ext.refl w10).drew).trans hW12).trans he12).trans hW14)) (by omega)).mono ?_
            rintro e w13 ⟨r14, rfl, hr14, he14⟩
            refine ⟨_, rfl, he14, ?_⟩
            obtain rfl : r14 = r12 := by cases r14 <;> cases r12 <;> simp_all
            have hE1013 : Ext w10 w13 := (((((Ext.refl w10).drew).trans hW12).trans he12).trans hW14).trans he14
            have nb : (r14 != r14) = false := by cases r14 <;> rfl
            clear hr12 hr14 hW12 he12 hW14 he14
            simp only [List.setIfInBounds_toArray, List.set_cons_zero, List.set_cons_succ]
            refine wpX_v 15 (.bool false) rfl rfl (by kernel_rfl) (by kernel_rfl) (by kernel_rfl) (fun _ _ _ _ h => h) (by kernel_rfl) rfl (by rfl) (fun W hW => by go_simp) ?_
            simp only [List.setIfInBounds_toArray, List.set_cons_zero, List.set_cons_succ]
            refine wpX_v 16 (.bool false) rfl rfl (by kernel_rfl) (by kernel_rfl) (by kernel_rfl) (fun _ _ _ _ h => h) (by kernel_rfl) rfl (by rfl) (fun W hW => by go_simp) ?_
            simp only [List.setIfInBounds_toArray, List.set_cons_zero, List.set_cons_succ]
            refine wpX_end rfl fun w14 hE14 => ?_
            refine tail_none (by kernel_rfl) ?_
            refine NoPanic.normal ?_
            have hE1014 := hE1013.trans hE14
            clear hE1013 hE14 nb neq
            go_wp2_with fail
            have hE17 := hE10.trans hE1014
            go_roundw
            case rel => exact ⟨j + 1, by omega, by go_num, hE17⟩
            case measure => simp [intOf]; omega
      · go_wp2_with fail
        refine (awake33_any wo).mono ?_
        rintro e w9 ⟨rfl, he9⟩
        go_wp2
        go_ret
        exact ⟨rfl, hEw.trans (hE8.trans he9)⟩
end Go.Proofs.Ytoeibcpjmoekpaa
