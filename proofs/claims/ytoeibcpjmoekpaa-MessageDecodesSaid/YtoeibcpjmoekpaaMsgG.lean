/- MessageCommands: the walk. -/
import Derived.Test.YtoeibcpjmoekpaaMsgF
namespace Go.Proofs.Ytoeibcpjmoekpaa
open Go.RowKit
set_option linter.unusedVariables false

/-- one command of the table -/
def RowC (W : World) (g j : Nat) : Prop := ∃ (x : Cmd) (y : Value), W.cell? ⟨g, j * 5, none⟩ = some (.int .i64 x.kind) ∧ W.cell? ⟨g, j * 5 + 1, none⟩ = some (.int .i64 x.thread) ∧ W.cell? ⟨g, j * 5 + 2, none⟩ = some (.int .i64 x.addr) ∧ W.cell? ⟨g, j * 5 + 3, none⟩ = some (.int .i64 x.n) ∧
  W.cell? ⟨g, j * 5 + 4, none⟩ = some y ∧ InI W y x.words ∧ x.words.length ≤ 400 ∧ x.Ok
theorem RowC.ext {W W' : World} {g j : Nat} (h : RowC W g j) (he : Ext W W') : RowC W' g j := by
  obtain ⟨p, y, c0, c1, c2, c3, c4, hy, hl⟩ := h
  exact ⟨p, y, he.cell c0, he.cell c1, he.cell c2, he.cell c3, he.cell c4, hy.ext he, hl⟩

set_option maxHeartbeats 1000000 in
set_option maxRecDepth 100000 in
theorem commands_walk (v : Value) (c : Cmd) (n : Int) (w : World) (hc : CmdAt w v c) (hok : c.Ok) (hl : c.words.length ≤ 9223372036854775807) :
    Calls Try.prog 4 #[v, .int .i64 n] w fun e w' => e = .returned (.bool true) ∧ Ext w w' := by
  obtain ⟨y, rfl, hy⟩ := hc
  obtain ⟨A, cp, rfl, _, _⟩ := id hy
  go_enter Try.func4, Try.ntmps4
  go_upto_region 1 with fail
  obtain ⟨W, hW, hE, hB⟩ : ∃ W, W = w.alloc (.cells #[.int .i64 c.kind, .int .i64 c.thread, .int .i64 c.addr, .int .i64 c.n, .slice A c.words.length cp] 28) ∧ Ext w W ∧ W.heap[w.heap.size]? = some (.cells #[.int .i64 c.kind, .int .i64 c.thread, .int .i64 c.addr, .int .i64 c.n, .slice A c.words.length cp] 28 (0, 0)) :=
    ⟨_, rfl, (Ext.refl w).alloc _, heap_alloc_new w _⟩
  rw [← hW]
  clear hW
  obtain ⟨q0, q1, q2, q3, q4⟩ := blk5 hB
  by_cases h : 400 < c.words.length
  · have h' : (400 : Int) < (c.words.length : Int) := by omega
    go_wp2_with fail
    refine (awake36_any W).mono ?_
    rintro e w1 ⟨rfl, he⟩
    go_wp2_with fail
    go_ret
    exact ⟨rfl, hE.trans he⟩
  have h' : ¬ (400 : Int) < (c.words.length : Int) := by omega
  have HO := Lib.hid hok
  clear hok
  go_wp2_with fail
  have hX2 := (Ext.refl W).alloc (.cells #[.int .i64 c.kind, .int .i64 c.thread, .int .i64 c.addr, .int .i64 c.n, .slice A c.words.length cp] 28)
  have hB2 := hX2.heap hB
  have hD2 := heap_alloc_new W (.cells #[.int .i64 c.kind, .int .i64 c.thread, .int .i64 c.addr, .int .i64 c.n, .slice A c.words.length cp] 28)
  have hE2 := hE.trans hX2
  have hlt2 : w.heap.size < W.heap.size := World.block_lt_of_cell? _ _ q0
  clear hX2 q0 q1 q2 q3 q4 hB
  generalize W.alloc (.cells #[.int .i64 c.kind, .int .i64 c.thread, .int .i64 c.addr, .int .i64 c.n, .slice A c.words.length cp] 28) = W2 at *
  generalize W.heap.size = gd at *
  refine (Mod_any n 4 W2 (by omega) (by omega)).mono ?_
  rintro e w3 ⟨rfl, rfl⟩
  obtain ⟨k, hk⟩ : ∃ k : Nat, n % 4 = (k : Int) := ⟨(n % 4).toNat, by omega⟩
  have hk4 : k < 4 := by omega
  rw [hk]
  clear hk
  have hmk : ∀ W, (Instr.makeSlice 26 (.int .i64 (126 + (k : Int))) (.int .i64 (126 + (k : Int)))).run Try.prog W = .ok (.slice (some ⟨W.heap.size, 0, none⟩) (126 + k) (126 + k)) (W.alloc (.cells (madeCells #[.int .i64 0] (126 + k)) 3)) := fun W => by
    have := run_make_row' (P := Try.prog) 26 3 _ _ Try.underlying26 int_info rfl .i64 .i64 (126 + k) (by omega) (by omega) W
    simpa using this
  obtain ⟨p0, p1, p2, p3, p4⟩ := blk5 hD2
  have f4 := blk_free hD2 4
  obtain ⟨q0, q1, q2, q3, q4⟩ := blk5 hB2
  have hltd := World.block_lt_of_cell? _ _ p0
  simp only at hltd
  have hne1 : w.heap.size ≠ gd := by omega
  have hne2 : gd ≠ w.heap.size := by omega
  have hltb : w.heap.size < W2.heap.size := by omega
  go_wp2_with fail
  have hg3 : W2.grownBy (W2.setCell ⟨gd, 4, none⟩ (.slice (some ⟨W2.heap.size, 0, none⟩) (126 + k) (126 + k))) (some gd) := gset _ _ _
  have hD3 := blk_set hD2 4 (.slice (some ⟨W2.heap.size, 0, none⟩) (126 + k) (126 + k))
  have hB3 := blk_grown hB2 hg3 (by simp; omega)
  have hE3 := hE2.grown hg3 (fun k e => by cases e; omega)
  have hsz : (W2.setCell ⟨gd, 4, none⟩ (.slice (some ⟨W2.heap.size, 0, none⟩) (126 + k) (126 + k))).heap.size = W2.heap.size := by simp [World.setCell]
  have hX4 := (Ext.refl (W2.setCell ⟨gd, 4, none⟩ (.slice (some ⟨W2.heap.size, 0, none⟩) (126 + k) (126 + k)))).alloc (.cells (madeCells #[.int .i64 0] (126 + k)) 3)
  have ho4 := OwnV_newN (f := iv) (W2.setCell ⟨gd, 4, none⟩ (.slice (some ⟨W2.heap.size, 0, none⟩) (126 + k) (126 + k))) (List.replicate (126 + k) 0) (126 + k) (by simp) (by omega) (madeCells #[.int .i64 0] (126 + k)) (by rw [made_list, List.map_replicate]; rfl) 3
  rw [hsz] at ho4
  have hD4 := hX4.heap hD3
  have hB4 := hX4.heap hB3
  have hE4 := hE3.trans hX4
  have hs4 : ((W2.setCell ⟨gd, 4, none⟩ (.slice (some ⟨W2.heap.size, 0, none⟩) (126 + k) (126 + k))).alloc (.cells (madeCells #[.int .i64 0] (126 + k)) 3)).heap.size = W2.heap.size + 1 := by simp [World.setCell]
  clear hD3 hB3 hX4 hg3 p0 p1 p2 p3 p4 f4 hmk hD2 hB2 hE2 hE3 q0 q1 q2 q3 q4 hsz
  generalize (W2.setCell ⟨gd, 4, none⟩ (.slice (some ⟨W2.heap.size, 0, none⟩) (126 + k) (126 + k))).alloc (.cells (madeCells #[.int .i64 0] (126 + k)) 3) = W4 at *
  have hX5 := (Ext.refl W4).alloc (.cells #[.int .i64 c.kind, .int .i64 c.thread, .int .i64 c.addr, .int .i64 c.n, .slice A c.words.length cp, .int .i64 c.kind, .int .i64 c.thread, .int .i64 c.addr, .int .i64 c.n, .slice (some ⟨W2.heap.size, 0, none⟩) (126 + k) (126 + k)] 28)
  have hb5 := heap_alloc_new W4 (.cells #[.int .i64 c.kind, .int .i64 c.thread, .int .i64 c.addr, .int .i64 c.n, .slice A c.words.length cp, .int .i64 c.kind, .int .i64 c.thread, .int .i64 c.addr, .int .i64 c.n, .slice (some ⟨W2.heap.size, 0, none⟩) (126 + k) (126 + k)] 28)
  have hE5 := hE4.trans hX5
  have i1 := hy.ext hE5
  have i2 := ho4.inV.ext hX5
  clear hX5 ho4 hD4 hB4 hE4
  generalize W4.alloc (.cells #[.int .i64 c.kind, .int .i64 c.thread, .int .i64 c.addr, .int .i64 c.n, .slice A c.words.length cp, .int .i64 c.kind, .int .i64 c.thread, .int .i64 c.addr, .int .i64 c.n, .slice (some ⟨W2.heap.size, 0, none⟩) (126 + k) (126 + k)] 28) = w7 at *
  rw [hs4] at hb5
  clear hs4
  generalize W2.heap.size + 1 = gr at *
  have hR : ∀ j, j < 2 → RowC w7 gr j := by
    intro j hj
    rcases (show j = 0 ∨ j = 1 by omega) with rfl | rfl
    · exact ⟨c, _, blk_at hb5 0 _ rfl, blk_at hb5 1 _ rfl, blk_at hb5 2 _ rfl, blk_at hb5 3 _ rfl, blk_at hb5 4 _ rfl, i1, by omega, HO.out⟩
    · exact ⟨⟨c.kind, c.thread, c.addr, c.n, List.replicate (126 + k) 0⟩, _, blk_at hb5 5 _ rfl, blk_at hb5 6 _ rfl, blk_at hb5 7 _ rfl, blk_at hb5 8 _ rfl, blk_at hb5 9 _ rfl, i2, by simp; omega, HO.out.head, fun x hx => by rw [(List.mem_replicate.1 hx).2]; exact ⟨by omega, by omega⟩⟩
  have HR := Lib.hid hR
  clear hR hb5 i1 i2
  go_loopw [29] (fun i wr => ∃ j : Nat, j ≤ 2 ∧ i = .int .i64 (j : Int) ∧ Ext w7 wr) (fun i _ => 2 - (intOf i).toNat)
  case atStart => exact ⟨0, by omega, rfl, Ext.refl w7⟩
  case round =>
    obtain ⟨j, hj, rfl, hE8⟩ := hrel
    obtain ⟨wo, rfl⟩ : ∃ wo : World, wo = wr := ⟨_, rfl⟩
    by_cases hj3 : j < 2
    rotate_left
    · obtain rfl : j = 2 := by omega
      go_wp2_with fail
      refine (awake36_any wo).mono ?_
      rintro e w1 ⟨rfl, he⟩
      go_wp2_with fail
      go_ret
      exact ⟨rfl, (hE5.trans hE8).trans he⟩
    obtain ⟨x, yx, d0, d1, d2, d3, d4, ix, lx, ox⟩ := (HR.out j hj3).ext hE8
    have OX := Lib.hid ox
    clear ox
    have hij : (j : Int) < 2 := by omega
    obtain ⟨X, cx, rfl, _, _⟩ := id ix
    go_wp2_with fail
    have hbx := heap_alloc_new wo (.cells #[.int .i64 x.kind, .int .i64 x.thread, .int .i64 x.addr, .int .i64 x.n, .slice X x.words.length cx] 28)
    have hex := (Ext.refl wo).alloc (.cells #[.int .i64 x.kind, .int .i64 x.thread, .int .i64 x.addr, .int .i64 x.n, .slice X x.words.length cx] 28)
    generalize wo.alloc (.cells #[.int .i64 x.kind, .int .i64 x.thread, .int .i64 x.addr, .int .i64 x.n, .slice X x.words.length cx] 28) = wx at *
    generalize wo.heap.size = gx at *
    have PX : CmdAt wx (.agg #[.int .i64 x.kind, .int .i64 x.thread, .int .i64 x.addr, .int .i64 x.n, .slice X x.words.length cx]) x := ⟨_, rfl, ix.ext hex⟩
    have hEx := hE8.trans hex
    clear hex hE8 ix d0 d1 d2 d3 d4
    refine (EncodeCommand_any _ x wx PX OX.out (by omega)).mono ?_
    rintro e w9 ⟨y9, er9, rfl, hc9, he9⟩
    have hb9 := he9.heap hbx
    obtain ⟨q0, q1, q2, q3, q4⟩ := blk5 hb9
    go_wp2_with fail
    refine (refEncodeCommand_any _ x w9 (PX.ext he9) OX.out (by omega)).mono ?_
    rintro e w10 ⟨y10, er10, rfl, hc10, he10⟩
    have hb10 := he10.heap hb9
    have hE10 := (hEx.trans he9).trans he10
    replace PX := PX.ext (he9.trans he10)
    clear q0 q1 q2 q3 q4 hb9 hbx hEx
    rcases hc9 with ⟨hR, rfl, ho9⟩ | ⟨hR, rfl, rfl⟩
    · rcases hc10 with ⟨_, rfl, ho10⟩ | ⟨hR', _, _⟩
      rotate_left
      · omega
      have ia : InB w10 y9 (encC x) := ho9.inV.ext he10
      have ib : InB w10 y10 (encC x) := ho10.inV
      have HDO : Hid (∀ q er, DecCIs (encC x) q er → q = x ∧ er = 0) := Lib.hid fun q er h => dec_own OX.out hR h
      have hLn := encC_len OX.out hR
      clear ho9 ho10 he9 he10
      generalize encC x = en at *
      have hs1 := strB ia
      have hs2 := strB ib
      have neq : (en != en) = false := by simp
      obtain ⟨Y9, c9, rfl, _, _⟩ := id ia
      obtain ⟨Y10, c10, rfl, _, _⟩ := id ib
      go_wp2_with fail
      refine (DecodeCommand_any _ en w10 ib (by omega)).mono ?_
      rintro e w15 ⟨v15, p15, er15, rfl, hd15, hpo, he15⟩
      obtain ⟨rfl, rfl⟩ := HDO.out _ _ hd15
      have hP15 := PX.ext he15
      have hb15 := he15.heap hb10
      have hE15 := hE10.trans he15
      obtain ⟨yy, rfl, hyo⟩ := hpo
      obtain ⟨YY, cyy, rfl, _, _⟩ := hyo.inV
      have hQ15 : CmdAt w15 (.agg #[.int .i64 p15.kind, .int .i64 p15.thread, .int .i64 p15.addr, .int .i64 p15.n, .slice YY p15.words.length cyy]) p15 := ⟨_, rfl, hyo.inV⟩
      clear hd15 he15 hyo ia ib hb10 PX HDO hE10 hs1 hs2 neq
      obtain ⟨q0, q1, q2, q3, q4⟩ := blk5 hb15
      have lt15 := World.block_lt_of_cell? _ _ q0
      simp only at lt15
      go_wp2_with fail
      have hex := (Ext.refl w15).alloc (.cells #[.int .i64 p15.kind, .int .i64 p15.thread, .int .i64 p15.addr, .int .i64 p15.n, .slice YY p15.words.length cyy] 28)
      generalize w15.alloc (.cells #[.int .i64 p15.kind, .int .i64 p15.thread, .int .i64 p15.addr, .int .i64 p15.n, .slice YY p15.words.length cyy] 28) = w16 at *
      refine (SameCommand_any _ _ p15 p15 w16 (hP15.ext hex) (hQ15.ext hex) (by omega) (by omega)).mono ?_
      rintro e w17 ⟨r17, rfl, hr17, he17⟩
      obtain rfl : r17 = true := hr17.2 rfl
      have hE17 := (hE15.trans hex).trans he17
      clear hr17 hex he17 hP15 hQ15 hb15 q0 q1 q2 q3 q4 lt15
      go_wp2_with fail
      go_roundw
      case rel => exact ⟨j + 1, by omega, by go_num, hE17⟩
      case measure => simp [intOf]; omega
    · rcases hc10 with ⟨hR', _, _⟩ | ⟨_, rfl, rfl⟩
      · omega
      have hs1 := strB (InV.nil (f := bv) w10)
      clear he9 he10
      go_wp2_with fail
      go_roundw
      case rel => exact ⟨j + 1, by omega, by go_num, hE10⟩
      case measure => simp [intOf]; omega
end Go.Proofs.Ytoeibcpjmoekpaa
