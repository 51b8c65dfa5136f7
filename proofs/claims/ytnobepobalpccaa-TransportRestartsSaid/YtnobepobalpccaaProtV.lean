/- TransportRestarts: the walk. -/
import Derived.Test.YtnobepobalpccaaProtS
import Derived.Test.YtnobepobalpccaaProtZg
import Derived.BigQuiet
namespace Go.Proofs.Ytnobepobalpccaa
open Go.RowKit
set_option linter.unusedVariables false

/-- the messages that are pushed: one byte each, from k0 on -/
def pushL (k0 n : Nat) : List (List UInt8) := (List.range n).map fun i => [UInt8.ofNat (k0 + i)]
theorem pushL_succ (k0 n : Nat) : pushL k0 (n + 1) = pushL k0 n ++ [[UInt8.ofNat (k0 + n)]] := by simp [pushL, List.range_succ]
theorem pushL_len (k0 n : Nat) : (pushL k0 n).length = n := by simp [pushL]
theorem pushL_one {k0 n : Nat} {x : List UInt8} (h : x ∈ pushL k0 n) : x.length ≤ 10 := by
  obtain ⟨i, _, rfl⟩ := List.mem_map.1 h
  simp
theorem pushL_flat (k0 n : Nat) : (pushL k0 n).flatten = (List.range n).map fun i => UInt8.ofNat (k0 + i) := by
  induction n with
  | zero => rfl
  | succ n ih => rw [pushL_succ, List.flatten_append, ih, List.range_succ, List.map_append]; rfl
theorem pushL_take (k0 n k : Nat) (h : k ≤ n) : (pushL k0 n).take k = pushL k0 k := by
  rw [pushL, pushL, ← List.map_take, List.take_range, Nat.min_eq_left h]
structure RP (T : Nat) (a b : SD) (P : List (List UInt8)) : Prop where
  two : Two P [] a b
  fit : Fit T a b
  la : a.LS (10 * T) (5 * T)
  lb : b.LS (10 * T) (5 * T)
  ea : a.e.epoch = 1
  eb : b.e.epoch = 1
  dst : ∀ z ∈ b.fl, Dst 1 z.2
  small : P.length ≤ 5
theorem RP.exch {T : Nat} {a b a' b' : SD} {P : List (List UInt8)} (h : RP T a b P) (hT : T < 9000) (hx : Exch T a b a' b') : RP (T + 1) a' b' P := by
  obtain ⟨l1, l2⟩ := h.la.exch h.lb (by omega) hx
  obtain ⟨h1, h2⟩ := h.two.half h.la h.lb hx
  refine ⟨h.two.exch h.la h.lb hx, h.fit.exch (by omega) h.la h.lb hx, l1.more (by omega) (by omega), l2.more (by omega) (by omega), h2.epoch.trans h.ea, h1.epoch.trans h.eb, ?_, h.small⟩
  have hd := Dst.step h.two h.lb.fates hx.left.2 (by rw [h.ea]; exact h.dst)
  rw [h.ea] at hd
  exact hd
theorem RP.push {T : Nat} {a b : SD} {P : List (List UInt8)} (h : RP T a b P) (c : UInt8) (hP : P.length < 5) : RP T (a.push [c]) b (P ++ [[c]]) := by
  have h1 := h.two.fw.queue
  have h2 := h.two.fw.low
  have h3 := h.two.fw.gotn
  refine ⟨h.two.push [c], ⟨⟨h.fit.ta.win, h.fit.ta.timer, h.fit.ta.lo, h.fit.ta.hi⟩, h.fit.tb, ⟨h.fit.ra.fates, h.fit.ra.sent⟩, h.fit.rb⟩, h.la.push (by simp) ?_, h.lb, h.ea, h.eb, h.dst, by simp; omega⟩
  rw [h1, List.length_drop]
  omega
theorem RP.known {T : Nat} {a b a' b' : SD} {P : List (List UInt8)} (h : RP T a b P) (hp : b.e.peer ≠ 0) (hx : Exch T a b a' b') : b'.e.peer ≠ 0 := by
  obtain ⟨h1, h2⟩ := h.two.half h.la h.lb hx
  rw [h1.peer hp]
  exact hp
def newR (R : List (List UInt8)) : EP := ⟨2, 0, 0, 0, 0, 0, R, false⟩
theorem RP.bare {T : Nat} {a b : SD} {P : List (List UInt8)} (h : RP T a b P) : a.got = [] ∧ a.resets = 0 := ⟨by rw [h.two.fro.got]; simp, h.two.fro.resets⟩
theorem RP.again {T : Nat} {a b : SD} {P R : List (List UInt8)} (h : RP T a b P) (hR : R.length ≤ 10) (hs : ∀ x ∈ R, x.length ≤ 10) : (a.setE (newR R)).LS (10 * T) (5 * T) := by
  obtain ⟨h1, h2⟩ := h.bare
  refine ⟨⟨by simp [SD.setE, newR], by simp [SD.setE, newR], ⟨by simp [SD.setE, newR], by simp [SD.setE, newR], by simp [SD.setE, newR]⟩, by simp [SD.setE, newR], by simp [SD.setE, newR]; omega, by simp [SD.setE, newR], hs⟩, h.la.fl, h.la.few, h.la.fates, h.la.sent, ?_, ?_⟩
  · show ((a.got).length : Int) ≤ _
    rw [h1]; simp [SD.setE, newR]
  · show 0 ≤ a.resets ∧ a.resets ≤ _
    rw [h2]; simp [SD.setE, newR]
/-- behind the restart -/
structure RR (T0 T : Nat) (a b : SD) (P R : List (List UInt8)) : Prop where
  rst : Rst P R T0 T a b
  fit : Fit T a b
  la : a.LS (10 * T) (5 * T)
  lb : b.LS (10 * T) (5 * T)
  ne : R ≠ []
  small : R.length ≤ 5
theorem RP.restart {T : Nat} {a b : SD} {P R : List (List UInt8)} (h : RP T a b P) (hp : b.e.peer ≠ 0) (hR : R ≠ []) (hs : R.length ≤ 5) (hx : ∀ x ∈ R, x.length ≤ 10) : RR T T (a.setE (newR R)) b P R := by
  have hr : Room (a.setE (newR R)) := ⟨h.fit.ra.fates, h.fit.ra.sent⟩
  exact ⟨.inl ⟨Pre.start h.two h.ea h.eb hp h.dst, Prog1.start hr⟩, ⟨⟨by simp [SD.setE, newR], by simp [SD.setE, newR]; omega, h.fit.ta.lo, h.fit.ta.hi⟩, h.fit.tb, hr, h.fit.rb⟩, h.again (by omega) hx, h.lb, hR, hs⟩
theorem RR.exch {T0 T : Nat} {a b a' b' : SD} {P R : List (List UInt8)} (h : RR T0 T a b P R) (hT : T < 9000) (hx : Exch T a b a' b') : RR T0 (T + 1) a' b' P R := by
  obtain ⟨l1, l2⟩ := h.la.exch h.lb (by omega) hx
  exact ⟨h.rst.step h.ne (by omega) h.la h.lb h.fit hx, h.fit.exch (by omega) h.la h.lb hx, l1.more (by omega) (by omega), l2.more (by omega) (by omega), h.ne, h.small⟩
/-- what is asked at the end -/
structure Fin_ (B C : Nat) (a b : SD) : Prop where
  ex : ∃ k, k ≤ B ∧ b.got.length = k + C ∧ (∀ i, i < k → b.got[i]? = some (UInt8.ofNat i)) ∧ ∀ i, i < C → b.got[k + i]? = some (UInt8.ofNat (100 + i))
  rb : b.resets = 1
  ra : a.resets = 0
theorem RR.fin {T0 T B C : Nat} {a b : SD} (h : RR T0 T a b (pushL 0 B) (pushL 100 C)) (hd : T0 + 3000 ≤ T ∨ (a.e.queue = [] ∧ b.e.peer = 2)) : Fin_ B C a b := by
  have hs := h.small
  obtain ⟨n, hn, hg, hb, ha, _⟩ := h.rst.end_ (by
    rcases hd with h1 | h1
    · left; omega
    · exact .inr h1)
  rw [pushL_len] at hn
  rw [pushL_take 0 B n hn, pushL_flat, pushL_flat] at hg
  refine ⟨⟨n, hn, by rw [hg]; simp, fun i hi => ?_, fun i hi => ?_⟩, hb, ha⟩
  · rw [hg, List.getElem?_append_left (by simpa using hi)]
    simp [hi]
  · rw [hg, List.getElem?_append_right (by simp)]
    simp [hi]
theorem u8_of (i : Nat) (h : i < 256) : ((UInt8.ofNat i).toNat : Int) = i := by simp; omega
set_option maxHeartbeats 40000000 in
set_option maxRecDepth 100000 in
theorem restarts_walk (x y : Value) (toA toB : List Int) (be af wa : Int) (w : World) (hx : InI w x toA) (hy : InI w y toB) :
    Calls Try.prog 4 #[x, y, .int .i64 be, .int .i64 af, .int .i64 wa] w fun en w' => en = .returned (.bool true) ∧ Ext w w' := by
  obtain ⟨A1, c1, rfl, _, _⟩ := id hx
  obtain ⟨A2, c2, rfl, _, _⟩ := id hy
  go_enter Try.func4, Try.ntmps4
  go_wp2_with fail
  refine (New_any 1 w).mono ?_
  rintro en w1 ⟨rfl, hx1⟩
  go_wp2_with fail
  refine (Fates_any _ toB w1 (hy.ext hx1)).mono ?_
  rintro en w2 ⟨ya, za, rfl, hoa, hda, hla, hka, hx2⟩
  have hE2 := hx1.trans hx2
  obtain ⟨Ya, ca, rfl, _, _⟩ := hoa.inR
  go_upto_region 2 with fail
  have hBa := heap_alloc_new w2 (.cells #[.int .i64 1, .int .i64 0, .int .i64 0, .int .i64 0, .int .i64 0, .int .i64 0, .slice none 0 0, .bool false, .slice none 0 0, .slice Ya za.length ca, .int .i64 0, .slice none 0 0, .int .i64 0] 34)
  have hA3 := (Ext.refl w2).alloc (.cells #[.int .i64 1, .int .i64 0, .int .i64 0, .int .i64 0, .int .i64 0, .int .i64 0, .slice none 0 0, .bool false, .slice none 0 0, .slice Ya za.length ca, .int .i64 0, .slice none 0 0, .int .i64 0] 34)
  generalize w2.alloc (.cells #[.int .i64 1, .int .i64 0, .int .i64 0, .int .i64 0, .int .i64 0, .int .i64 0, .slice none 0 0, .bool false, .slice none 0 0, .slice Ya za.length ca, .int .i64 0, .slice none 0 0, .int .i64 0] 34) = w3 at *
  have hE3 := hE2.trans hA3
  have hlta := heap_lt hBa
  go_wp2_with fail
  refine (New_any 1 w3).mono ?_
  rintro en w4 ⟨rfl, hx4⟩
  go_wp2_with fail
  refine (Fates_any _ toA w4 (hx.ext (hE3.trans hx4))).mono ?_
  rintro en w5 ⟨yb, zb, rfl, hob, hdb, hlb, hkb, hx5⟩
  obtain ⟨Yb, cb, rfl, _, _⟩ := hob.inR
  have hX5 := hx4.trans hx5
  go_upto_region 3 with fail
  have hBb := heap_alloc_new w5 (.cells #[.int .i64 1, .int .i64 0, .int .i64 0, .int .i64 0, .int .i64 0, .int .i64 0, .slice none 0 0, .bool false, .slice none 0 0, .slice Yb zb.length cb, .int .i64 0, .slice none 0 0, .int .i64 0] 34)
  have hA6 := (Ext.refl w5).alloc (.cells #[.int .i64 1, .int .i64 0, .int .i64 0, .int .i64 0, .int .i64 0, .int .i64 0, .slice none 0 0, .bool false, .slice none 0 0, .slice Yb zb.length cb, .int .i64 0, .slice none 0 0, .int .i64 0] 34)
  generalize w5.alloc (.cells #[.int .i64 1, .int .i64 0, .int .i64 0, .int .i64 0, .int .i64 0, .int .i64 0, .slice none 0 0, .bool false, .slice none 0 0, .slice Yb zb.length cb, .int .i64 0, .slice none 0 0, .int .i64 0] 34) = w6 at *
  have hX6 := hX5.trans hA6
  have hE6 := hE3.trans hX6
  have hBa6 := hX6.heap hBa
  have hlab : w2.heap.size < w5.heap.size := Nat.lt_of_lt_of_le hlta hX5.size
  have hlab4 : w2.heap.size < w4.heap.size := Nat.lt_of_lt_of_le hlta hx4.size
  have hXS : XSt [] w w6 w2.heap.size w5.heap.size (newS 1 (za.map Prod.fst)) (newS 1 (zb.map Prod.fst)) (.slice none 0 0) (.slice none 0 0) :=
    XSt.begin hoa hda hob hdb hBa6 hBb (hA3.trans hX6) hA6 hlab hlab4 hE2.size hE6
  have HRP : Hid (RP 0 (newS 1 (za.map Prod.fst)) (newS 1 (zb.map Prod.fst)) [] ∧ (Done (newS 1 (za.map Prod.fst)) (newS 1 (zb.map Prod.fst)) ∨ Prog 0 0 (newS 1 (za.map Prod.fst)) (newS 1 (zb.map Prod.fst)))) := Lib.hid (by
    have h := DPl.new (n := 1) (m := 1) (by omega) (by omega) (fa := za.map Prod.fst) (fb := zb.map Prod.fst) (by simpa using hla) (by simpa using hlb) (fun f hf => by obtain ⟨z, hz, rfl⟩ := List.mem_map.1 hf; exact hka z hz) (fun f hf => by obtain ⟨z, hz, rfl⟩ := List.mem_map.1 hf; exact hkb z hz)
    exact ⟨⟨h.two, h.fit, h.la, h.lb, rfl, rfl, by simp [newS], by simp⟩, .inr (Prog.start h.two h.fit.ra h.fit.rb (fun hd => hd.1 rfl))⟩)
  clear hBa hA3 hE3 hoa hda hla hka hob hdb hlb hkb hX5 hA6 hX6 hBa6 hBb hx1 hx2 hx4 hx5 hE2 hE6 hlta hlab4 hx hy
  generalize w2.heap.size = ba at *
  generalize w5.heap.size = bb at *
  generalize newS 1 (za.map Prod.fst) = a0 at *
  generalize newS 1 (zb.map Prod.fst) = b0 at *
  go_wp2_with fail
  refine (awake35_any w6).mono ?_
  rintro en w7 ⟨rfl, hx7⟩
  have hXS7 := hXS.extW hx7
  clear hXS
  go_wp2_with fail
  refine (Mod_any be 6 w7 (by omega) (by omega)).mono ?_
  rintro en wm ⟨rfl, rfl⟩
  obtain ⟨B, hB⟩ : ∃ B : Nat, be % 6 = B := ⟨(be % 6).toNat, by omega⟩
  have hB5 : B ≤ 5 := by omega
  rw [hB]
  clear hB
  go_wp2_with fail
  refine (Mod_any af 5 w7 (by omega) (by omega)).mono ?_
  rintro en wm ⟨rfl, rfl⟩
  obtain ⟨C, hC, hC5⟩ : ∃ C : Nat, IntKind.i64.wrap (1 + af % 5) = C ∧ 1 ≤ C ∧ C ≤ 5 := ⟨(1 + af % 5).toNat, by rw [IntKind.wrap_i64]; omega, by omega, by omega⟩
  go_wp2_with fail
  go_loopw [13] (fun i wr => ∃ (T : Nat) (a b : SD) (gA gB : Value), i = .int .i64 (T : Int) ∧ T ≤ 1500 ∧ XSt [] w wr ba bb a b gA gB ∧ Hid (RP T a b [] ∧ (Done a b ∨ Prog 0 T a b))) (fun i _ => 1500 - (intOf i).toNat)
  case atStart => exact ⟨0, a0, b0, _, _, rfl, by omega, hXS7, HRP⟩
  case round =>
    clear hXS7 HRP hC
    obtain ⟨T, a, b, gA, gB, rfl, hT, hX, HRP⟩ := hrel
    obtain ⟨wo, rfl⟩ : ∃ wo : World, wo = wr := ⟨_, rfl⟩
    obtain ⟨Aq, cq, Af, fc, ftv, zs, hba, _⟩ := hX.sa.ex
    obtain ⟨Bq, dq, Bf, fd, ftw, zt, hbb, _⟩ := hX.sb.ex
    obtain ⟨_, p1, _⟩ := sd_ep hba
    obtain ⟨_, q1, _⟩ := sd_ep hbb
    have HQQ : Hid (a.e.queue = [] ∧ b.e.queue = []) := Lib.hid ⟨by rw [HRP.out.1.two.fw.queue]; simp, by rw [HRP.out.1.two.fro.queue]; simp⟩
    clear hba hbb
    go_upto_region 7 with fail
    go_cut [55] (fun s wx => ∃ d : Bool, s = .bool d ∧ (d = true ↔ T < 1500 ∧ ¬ Done a b) ∧ wx = wo)
    case first =>
      by_cases h1 : T < 1500
      · have d1 : decide ((T : Int) < 1500) = true := by simp; omega
        by_cases h2 : b.e.peer = 0
        · have d2 : (b.e.peer == 0) = true := by simp [h2]
          have H2 := Lib.hid h2
          clear h2
          go_wp2_with fail
          go_meet
          exact ⟨true, rfl, ⟨fun _ => ⟨h1, fun hd => hd.2.1 H2.out⟩, fun _ => rfl⟩, rfl⟩
        · have d2 : (b.e.peer == 0) = false := by simp [h2]
          have H2 := Lib.hid h2
          clear h2
          by_cases h3 : a.e.peer = 0
          · have d3 : (a.e.peer == 0) = true := by simp [h3]
            have H3 := Lib.hid h3
            clear h3
            go_wp2_with fail
            go_meet
            exact ⟨true, rfl, ⟨fun _ => ⟨h1, fun hd => hd.1 H3.out⟩, fun _ => rfl⟩, rfl⟩
          · have d3 : (a.e.peer == 0) = false := by simp [h3]
            have H3 := Lib.hid h3
            clear h3
            go_wp2_with fail
            go_meet
            exact ⟨false, rfl, ⟨fun h => (by cases h), fun h => absurd ⟨H3.out, H2.out, HQQ.out.1, HQQ.out.2⟩ h.2⟩, rfl⟩
      · have d1 : decide ((T : Int) < 1500) = false := by simp; omega
        go_wp2_with fail
        go_meet
        exact ⟨false, rfl, ⟨fun h => (by cases h), fun h => absurd h.1 h1⟩, rfl⟩
    obtain ⟨d, rfl, hd, rfl⟩ := hcut
    cases d with
    | true =>
      obtain ⟨h1, hnd⟩ := hd.1 rfl
      have HND := Lib.hid hnd
      clear hd hnd p1 q1 HQQ
      go_wp2_with fail
      refine (exchange_any _ w ba bb a b gA gB (T : Int) (10 * T) (5 * T) wc hX HRP.out.1.la HRP.out.1.lb (by omega) (by omega) (by omega)).mono ?_
      rintro en w9 ⟨v9, a2, b2, gA2, gB2, rfl, hex, hX2, _, _, _⟩
      have HR2 : Hid (RP (T + 1) a2 b2 [] ∧ (Done a2 b2 ∨ Prog 0 ((T + 1 : Nat) : Int) a2 b2)) := Lib.hid (by
        refine ⟨HRP.out.1.exch (by omega) hex, ?_⟩
        by_cases hd2 : Done a2 b2
        · exact .inl hd2
        · have hp := HRP.out.2.resolve_left HND.out
          exact .inr (hp.step HRP.out.1.two HRP.out.1.la HRP.out.1.lb HRP.out.1.fit hex hd2))
      clear hex hX HRP HND
      go_wp2_with fail
      go_roundw
      case rel => exact ⟨T + 1, a2, b2, gA2, gB2, by first | (with_reducible rfl) | go_num, by omega, hX2, HR2⟩
      case measure => simp [intOf]; omega
    | false =>
      have HDN : Hid (b.e.peer ≠ 0) := Lib.hid (by
        have hdn : Done a b := Classical.byContradiction fun hnd => by
          have hp := HRP.out.2.resolve_left hnd
          have h1 := hp.bound HRP.out.1.two
          simp at h1
          have := hd.2 ⟨by omega, hnd⟩
          cases this
        exact hdn.2.1)
      have HP0 : Hid (RP T a b (pushL 0 0)) := Lib.hid HRP.out.1
      clear hd HRP HQQ p1 q1
      go_wp2_with fail
      go_loopw [14] (fun i wr => ∃ (j : Nat) (a : SD), i = .int .i64 (j : Int) ∧ j ≤ B ∧ XSt [] w wr ba bb a b gA gB ∧ Hid (RP T a b (pushL 0 j))) (fun i _ => B - (intOf i).toNat)
      case atStart => exact ⟨0, a, rfl, by omega, hX, HP0⟩
      case round =>
        clear hX HP0
        obtain ⟨j, a, rfl, hj, hX, HP⟩ := hrel
        obtain ⟨wo, rfl⟩ : ∃ wo : World, wo = wr := ⟨_, rfl⟩
        by_cases hjB : j < B
        · have hij : (j : Int) < (B : Int) := by omega
          obtain ⟨n8, h8⟩ : ∃ n8 : UInt8, n8 = UInt8.ofNat (0 + j) := ⟨_, rfl⟩
          have hc8 : Value.int .u8 (j : Int) = bv n8 := by rw [h8]; show _ = Value.int .u8 ((UInt8.ofNat (0 + j)).toNat : Int); rw [u8_of _ (by omega), Nat.zero_add]
          have HC8 := Lib.hid hc8
          have H8 := Lib.hid h8
          clear hc8 h8
          obtain ⟨Aq, cq, Af, fc, ftv, zs, hblk, hQ, hz, hfl, hbd, hft⟩ := hX.sa.ex
          have hld := sd_load hblk
          have hA8 := (Ext.refl wo).alloc (.cells #[.int .u8 (j : Int)] 5)
          have hin : InB (wo.alloc (.cells #[.int .u8 (j : Int)] 5)) (.slice (some ⟨wo.heap.size, 0, none⟩) 1 1) [n8] := by
            rw [HC8.out]
            exact ⟨_, 1, rfl, Nat.le_refl _, Rd_blk (heap_alloc_new wo (.cells #[bv n8] 5))⟩
          have hql : a.e.queue.length < 1000 := by
            have h1 := HP.out.two.fw.queue
            have h2 := HP.out.small
            rw [h1, List.length_drop]
            omega
          have HBD := Lib.hid hbd
          have HZZ := Lib.hid hz
          clear hbd hz
          go_wp2_with first | refine wpList_load_run rfl 26 (.tmp 71) rfl _ _ rfl hld ?_
          refine (Push_own _ _ a.e [n8] _ ⟨_, rfl, (hQ.ext hA8).out⟩ HP.out.la.e.tame.mid hin).mono ?_
          rintro en w9 ⟨y9, e9, er9, rfl, heq, hq9, hx9⟩
          rw [push_small _ hql [n8] (by simp)] at heq
          have HE : Hid (a.push [n8] = a.setE e9) := Lib.hid (by rw [SD.push, (Prod.mk.inj heq).1])
          clear heq
          obtain ⟨A9, c9, rfl, _⟩ := hq9.in_.form
          have hX9 := hX.extW (hA8.trans hx9)
          obtain ⟨w10, hst, hblk10, hg10⟩ := sd_store ((hA8.trans hx9).heap hblk) e9 A9 e9.queue.length c9
          clear hld
          go_wp2_with first | refine wpList_store_run rfl 26 (.tmp 80) (.tmp 77) rfl _ _ _ rfl rfl hst ?_
          have hkA : Kept w9.heap.size (xsOf [] ba bb gA gB) w9 w10 := XSt.keptA hg10
          have hXp : XSt [] w w10 ba bb (a.setE e9) b gA gB :=
            hX9.upA hg10 rfl ⟨A9, c9, Af, fc, ftv, zs, hblk10, (((Fr.qOwn hq9).st (fun x hx => Nat.lt_of_lt_of_le (hX.lt x hx) hA8.size)).imp fun _ h => h.in_).mono hkA (fun y hy => .inl hy), HZZ.out, (hfl.ext (hA8.trans hx9)).mono hkA (fun y hy => .inl hy), fun z hz => ((HBD.out z hz).ext (hA8.trans hx9)).mono hkA (fun y hy => .inl hy), (hft.ext (hA8.trans hx9)).mono hkA (fun y hy => .inl hy)⟩
          rw [← HE.out] at hXp
          go_roundw
          case rel => exact ⟨j + 1, a.push [n8], by first | (with_reducible rfl) | go_num, by omega, hXp, Lib.hid (by rw [pushL_succ, ← H8.out]; exact HP.out.push n8 (by rw [pushL_len]; omega))⟩
          case measure => simp [intOf]; omega
        · obtain rfl : j = B := by omega
          have hij : ¬ (j : Int) < (j : Int) := by omega
          clear hjB hj
          go_wp2_with fail
          refine (Mod_any wa 30 wo (by omega) (by omega)).mono ?_
          rintro en wm ⟨rfl, rfl⟩
          obtain ⟨T1, hT1, hT1r⟩ : ∃ T1 : Nat, IntKind.i64.wrap ((T : Int) + wa % 30) = T1 ∧ T ≤ T1 ∧ T1 ≤ 1530 := ⟨((T : Int) + wa % 30).toNat, by rw [IntKind.wrap_i64]; omega, by omega, by omega⟩
          go_wp2_with fail
          go_loopw [13] (fun i wr => ∃ (U : Nat) (a b : SD) (gA gB : Value), i = .int .i64 (U : Int) ∧ U ≤ T1 ∧ XSt [] w wr ba bb a b gA gB ∧ Hid (RP U a b (pushL 0 j) ∧ b.e.peer ≠ 0)) (fun i _ => T1 - (intOf i).toNat)
          case atStart => exact ⟨T, a, b, gA, gB, rfl, by omega, hX, Lib.hid ⟨HP.out, HDN.out⟩⟩
          case round =>
            clear hX HP HDN hT1
            obtain ⟨U, a, b, gA, gB, rfl, hU, hX, HP⟩ := hrel
            obtain ⟨wo, rfl⟩ : ∃ wo : World, wo = wr := ⟨_, rfl⟩
            by_cases hU1 : U < T1
            · have hij : (U : Int) < (T1 : Int) := by omega
              go_wp2_with fail
              refine (exchange_any _ w ba bb a b gA gB (U : Int) (10 * U) (5 * U) wo hX HP.out.1.la HP.out.1.lb (by omega) (by omega) (by omega)).mono ?_
              rintro en w9 ⟨v9, a2, b2, gA2, gB2, rfl, hex, hX2, _, _, _⟩
              have HP2 : Hid (RP (U + 1) a2 b2 (pushL 0 j) ∧ b2.e.peer ≠ 0) := Lib.hid ⟨HP.out.1.exch (by omega) hex, HP.out.1.known HP.out.2 hex⟩
              clear hex hX HP
              go_wp2_with fail
              go_roundw
              case rel => exact ⟨U + 1, a2, b2, gA2, gB2, by first | (with_reducible rfl) | go_num, by omega, hX2, HP2⟩
              case measure => simp [intOf]; omega
            · obtain rfl : U = T1 := by omega
              have hij : ¬ (U : Int) < (U : Int) := by omega
              clear hU hU1
              go_wp2_with fail
              refine (New_any 2 wo).mono ?_
              rintro en w1 ⟨rfl, hx1⟩
              obtain ⟨Aq, cq, Af, fc, ftv, zs, hblk, hQ, hz, hfl, hbd, hft⟩ := hX.sa.ex
              have HBD := Lib.hid hbd
              have HZZ := Lib.hid hz
              clear hbd hz
              obtain ⟨w10, hst, hblk10, hg10⟩ := sd_store (hx1.heap hblk) (newR []) none 0 0
              have hst' : (Instr.storeAt 26 (.pointer (some ⟨ba, 0, none⟩)) (.agg #[.int .i64 2, .int .i64 0, .int .i64 0, .int .i64 0, .int .i64 0, .int .i64 0, .slice none 0 0, .bool false])).run Try.prog w1 = .ok () w10 := hst
              go_upto_region 19 with first | refine wpList_store_run rfl 26 (.tmp 97) (.tmp 95) rfl _ _ _ rfl rfl hst' ?_
              have hkA : Kept w1.heap.size (xsOf [] ba bb gA gB) w1 w10 := XSt.keptA hg10
              have hXp : XSt [] w w10 ba bb (a.setE (newR (pushL 100 0))) b gA gB :=
                (hX.extW hx1).upA hg10 rfl ⟨none, 0, Af, fc, ftv, zs, hblk10, fun W' _ => QIn.nil W', HZZ.out, (hfl.ext hx1).mono hkA (fun y hy => .inl hy), fun z hz => ((HBD.out z hz).ext hx1).mono hkA (fun y hy => .inl hy), (hft.ext hx1).mono hkA (fun y hy => .inl hy)⟩
              clear hX hx1 hblk hQ hfl hft hst hst' hblk10 hg10 hkA
              go_wp2_with fail
              go_loopw [16] (fun i wr => ∃ (q : Nat), i = .int .i64 (q : Int) ∧ q ≤ C ∧ XSt [] w wr ba bb (a.setE (newR (pushL 100 q))) b gA gB) (fun i _ => C - (intOf i).toNat)
              case atStart => exact ⟨0, rfl, by omega, hXp⟩
              case round =>
                clear hXp
                obtain ⟨q, rfl, hq, hX⟩ := hrel
                obtain ⟨wo, rfl⟩ : ∃ wo : World, wo = wr := ⟨_, rfl⟩
                by_cases hqC : q < C
                · have hij : (q : Int) < (C : Int) := by omega
                  obtain ⟨n8, h8⟩ : ∃ n8 : UInt8, n8 = UInt8.ofNat (100 + q) := ⟨_, rfl⟩
                  have hw100 : IntKind.i64.wrap (100 + (q : Int)) = ((100 + q : Nat) : Int) := by rw [IntKind.wrap_i64]; omega
                  have hwu : IntKind.u8.wrap ((100 + q : Nat) : Int) = ((100 + q : Nat) : Int) := by rw [IntKind.wrap_u8]; omega
                  have hc8 : Value.int .u8 ((100 + q : Nat) : Int) = bv n8 := by rw [h8]; show _ = Value.int .u8 ((UInt8.ofNat (100 + q)).toNat : Int); rw [u8_of _ (by omega)]
                  have HC8 := Lib.hid hc8
                  have H8 := Lib.hid h8
                  clear hc8 h8
                  have hLS : Hid ((a.setE (newR (pushL 100 q))).LS (10 * U) (5 * U)) := Lib.hid (HP.out.1.again (by rw [pushL_len]; omega) fun x hx => pushL_one hx)
                  have hql : (a.setE (newR (pushL 100 q))).e.queue.length < 1000 := by
                    show (pushL 100 q).length < 1000
                    rw [pushL_len]; omega
                  obtain ⟨aq, haq⟩ : ∃ aq, aq = a.setE (newR (pushL 100 q)) := ⟨_, rfl⟩
                  rw [← haq] at hX hLS hql
                  have HAQ := Lib.hid haq
                  clear haq
                  obtain ⟨Aq, cq, Af, fc, ftv, zs, hblk, hQ, hz, hfl, hbd, hft⟩ := hX.sa.ex
                  have hld := sd_load hblk
                  have hA8 := (Ext.refl wo).alloc (.cells #[.int .u8 ((100 + q : Nat) : Int)] 5)
                  have hin : InB (wo.alloc (.cells #[.int .u8 ((100 + q : Nat) : Int)] 5)) (.slice (some ⟨wo.heap.size, 0, none⟩) 1 1) [n8] := by
                    rw [HC8.out]
                    exact ⟨_, 1, rfl, Nat.le_refl _, Rd_blk (heap_alloc_new wo (.cells #[bv n8] 5))⟩
                  have HBD := Lib.hid hbd
                  have HZZ := Lib.hid hz
                  clear hbd hz
                  go_wp2_with first | refine wpList_load_run rfl 26 (.tmp 107) rfl _ _ rfl hld ?_
                  refine (Push_own _ _ aq.e [n8] _ ⟨_, rfl, (hQ.ext hA8).out⟩ hLS.out.e.tame.mid hin).mono ?_
                  rintro en w9 ⟨y9, e9, er9, rfl, heq, hq9, hx9⟩
                  rw [push_small _ hql [n8] (by simp)] at heq
                  have HE : Hid (aq.push [n8] = aq.setE e9) := Lib.hid (by rw [SD.push, (Prod.mk.inj heq).1])
                  clear heq
                  obtain ⟨A9, c9, rfl, _⟩ := hq9.in_.form
                  have hX9 := hX.extW (hA8.trans hx9)
                  obtain ⟨w10, hst, hblk10, hg10⟩ := sd_store ((hA8.trans hx9).heap hblk) e9 A9 e9.queue.length c9
                  clear hld
                  go_wp2_with first | refine wpList_store_run rfl 26 (.tmp 117) (.tmp 114) rfl _ _ _ rfl rfl hst ?_
                  have hkA : Kept w9.heap.size (xsOf [] ba bb gA gB) w9 w10 := XSt.keptA hg10
                  have hXp : XSt [] w w10 ba bb (aq.setE e9) b gA gB :=
                    hX9.upA hg10 rfl ⟨A9, c9, Af, fc, ftv, zs, hblk10, (((Fr.qOwn hq9).st (fun x hx => Nat.lt_of_lt_of_le (hX.lt x hx) hA8.size)).imp fun _ h => h.in_).mono hkA (fun y hy => .inl hy), HZZ.out, (hfl.ext (hA8.trans hx9)).mono hkA (fun y hy => .inl hy), fun z hz => ((HBD.out z hz).ext (hA8.trans hx9)).mono hkA (fun y hy => .inl hy), (hft.ext (hA8.trans hx9)).mono hkA (fun y hy => .inl hy)⟩
                  rw [← HE.out, HAQ.out, H8.out] at hXp
                  have hpe : (a.setE (newR (pushL 100 q))).push [UInt8.ofNat (100 + q)] = a.setE (newR (pushL 100 (q + 1))) := by rw [pushL_succ]; rfl
                  rw [hpe] at hXp
                  clear hpe
                  go_roundw
                  case rel => exact ⟨q + 1, by first | (with_reducible rfl) | go_num, by omega, hXp⟩
                  case measure => simp [intOf]; omega
                · obtain rfl : q = C := by omega
                  have hij : ¬ (q : Int) < (q : Int) := by omega
                  have hw3 : IntKind.i64.wrap ((U : Int) + 3000) = ((U + 3000 : Nat) : Int) := by rw [IntKind.wrap_i64]; omega
                  have HRR : Hid (RR U U (a.setE (newR (pushL 100 q))) b (pushL 0 j) (pushL 100 q)) := Lib.hid (HP.out.1.restart HP.out.2 (fun h => by have := pushL_len 100 q; rw [h] at this; simp at this; omega) (by rw [pushL_len]; omega) fun x hx => pushL_one hx)
                  clear HP hqC hq
                  go_wp2_with fail
                  go_loopw [13] (fun i wr => ∃ (V : Nat) (a b : SD) (gA gB : Value), i = .int .i64 (V : Int) ∧ V ≤ U + 3000 ∧ XSt [] w wr ba bb a b gA gB ∧ Hid (RR U V a b (pushL 0 j) (pushL 100 q))) (fun i _ => U + 3000 - (intOf i).toNat)
                  case atStart => exact ⟨U, _, _, _, _, rfl, by omega, hX, HRR⟩
                  case round =>
                    clear hX HRR
                    obtain ⟨V, a, b, gA, gB, rfl, hV, hX, HR⟩ := hrel
                    obtain ⟨wo, rfl⟩ : ∃ wo : World, wo = wr := ⟨_, rfl⟩
                    by_cases hV1 : V < U + 3000
                    · have hij : (V : Int) < ((U + 3000 : Nat) : Int) := by omega
                      go_wp2_with fail
                      refine (exchange_any _ w ba bb a b gA gB (V : Int) (10 * V) (5 * V) wo hX HR.out.la HR.out.lb (by omega) (by omega) (by omega)).mono ?_
                      rintro en w9 ⟨v9, a2, b2, gA2, gB2, rfl, hex, hX2, _, _, _⟩
                      have HR2 : Hid (RR U (V + 1) a2 b2 (pushL 0 j) (pushL 100 q)) := Lib.hid (HR.out.exch (by omega) hex)
                      have hfl : a2.fl.length ≤ 100000 ∧ b2.fl.length ≤ 100000 := by
                        have h1 := HR2.out.la.few
                        have h2 := HR2.out.lb.few
                        omega
                      clear hex hX HR
                      go_upto_region 27 with fail
                      go_cut [157] (fun s wx => ∃ d : Bool, s = .bool d ∧ (d = true → a2.e.queue = [] ∧ b2.e.peer = 2) ∧ Ext w9 wx)
                      case first =>
                        obtain ⟨Aq, cq, Af, fc, ftv, zs, hba, _⟩ := hX2.sa.ex
                        obtain ⟨Bq, dq, Bf, fd, ftw, zt, hbb, _⟩ := hX2.sb.ex
                        obtain ⟨_, _, _, _, _, _, p6, _⟩ := sd_ep hba
                        obtain ⟨_, q1, _⟩ := sd_ep hbb
                        obtain ⟨p8, _, _, _, _⟩ := sd_at hba
                        obtain ⟨q8, _, _, _, _⟩ := sd_at hbb
                        have ws : IntKind.i64.wrap ((a2.fl.length : Int) + (b2.fl.length : Int)) = (a2.fl.length : Int) + (b2.fl.length : Int) := by rw [IntKind.wrap_i64]; omega
                        clear hba hbb HR2 hX2
                        by_cases hq0 : a2.e.queue.length = 0
                        case neg =>
                          have t3 : ((a2.e.queue.length : Int) == 0) = false := by rw [beq_eq_false_iff_ne]; omega
                          clear hq0
                          go_quiet (fail)
                          go_wp2_with fail
                          go_meet
                          exact ⟨false, rfl, fun h => (by cases h), (Ext.refl w9).drewN _⟩
                        have t3 : ((a2.e.queue.length : Int) == 0) = true := by rw [beq_iff_eq]; omega
                        have HQ := Lib.hid hq0
                        clear hq0
                        by_cases hpb : b2.e.peer = 2
                        case neg =>
                          have t2 : (b2.e.peer == 2) = false := by rw [beq_eq_false_iff_ne]; exact hpb
                          clear hpb
                          go_quiet (fail)
                          go_wp2_with fail
                          go_meet
                          exact ⟨false, rfl, fun h => (by cases h), (Ext.refl w9).drewN _⟩
                        have t2 : (b2.e.peer == 2) = true := by rw [beq_iff_eq]; exact hpb
                        have HPB := Lib.hid hpb
                        clear hpb
                        by_cases hf : a2.fl.length + b2.fl.length = 0
                        case neg =>
                          have t4 : ((a2.fl.length : Int) + (b2.fl.length : Int) == 0) = false := by rw [beq_eq_false_iff_ne]; omega
                          clear hf
                          go_quiet (fail)
                          go_wp2_with fail
                          go_meet
                          exact ⟨false, rfl, fun h => (by cases h), (Ext.refl w9).drewN _⟩
                        have t4 : ((a2.fl.length : Int) + (b2.fl.length : Int) == 0) = true := by rw [beq_iff_eq]; omega
                        clear hf
                        go_quiet (fail)
                        go_wp2_with fail
                        go_meet
                        exact ⟨true, rfl, fun _ => ⟨List.length_eq_zero_iff.1 HQ.out, HPB.out⟩, (Ext.refl w9).drewN _⟩
                      case rest =>
                        obtain ⟨d, rfl, hd, hxc⟩ := hcut
                        have hX := hX2.extW hxc
                        clear hX2 hxc
                        cases d with
                        | false =>
                          clear hd
                          go_wp2_with fail
                          go_roundw
                          case rel => exact ⟨V + 1, a2, b2, gA2, gB2, by first | (with_reducible rfl) | go_num, by omega, hX, HR2⟩
                          case measure => simp [intOf]; omega
                        | true =>
                          have HFI : Hid (Fin_ j q a2 b2) := Lib.hid (HR2.out.fin (.inr (hd rfl)))
                          clear hd HR2
                          obtain ⟨a, rfl⟩ : ∃ a, a = a2 := ⟨_, rfl⟩
                          obtain ⟨b, rfl⟩ : ∃ b, b = b2 := ⟨_, rfl⟩
                          obtain ⟨gA, rfl⟩ : ∃ g, g = gA2 := ⟨_, rfl⟩
                          obtain ⟨gB, rfl⟩ : ∃ g, g = gB2 := ⟨_, rfl⟩
                          obtain ⟨we, rfl⟩ : ∃ we : World, we = wc := ⟨_, rfl⟩
                          have HFN := Lib.hid HFI.out.ex
                          have hrb := HFI.out.rb
                          have hra := HFI.out.ra
                          clear HFI
                          obtain ⟨k, hkB, hkl, hk1, hk2⟩ := HFN.out
                          have HK1 := Lib.hid hk1
                          have HK2 := Lib.hid hk2
                          clear hk1 hk2 HFN
                          have hib : InB we gB b.got := hX.ob.inV
                          obtain ⟨Aq, cq, Af, fc, ftv, zs, hba, _⟩ := hX.sa.ex
                          obtain ⟨Bq, dq, Bf, fd, ftw, zt, hbb, _⟩ := hX.sb.ex
                          rw [hra] at hba
                          rw [hrb] at hbb
                          obtain ⟨_, _, _, _, a12⟩ := sd_at hba
                          obtain ⟨_, _, _, b11, b12⟩ := sd_at hbb
                          obtain ⟨GB, gc, hgb, _, hrd⟩ := hX.ob.inV
                          obtain ⟨K, hK⟩ : ∃ K, K = k + q := ⟨_, rfl⟩
                          rw [hkl, ← hK] at hgb
                          subst hgb
                          obtain ⟨bo, oo, rfl, hz0⟩ := hrd.at2 (k := 0) (by simp; omega)
                          clear hz0
                          have HC : Hid (∀ n (v : UInt8), b.got[n]? = some v → we.cell? ⟨bo, oo + n, none⟩ = some (.int .u8 (v.toNat : Int))) := Lib.hid fun n v hv => by
                            obtain ⟨hlt, e⟩ := List.getElem?_eq_some_iff.1 hv
                            obtain ⟨b', o', e', hc⟩ := hrd.at2 (k := n) (by simpa using hlt)
                            cases e'
                            rw [hc, List.getElem_map, e]
                            rfl
                          obtain ⟨yr, hyr, hinr⟩ := sufB hib k (by omega)
                          obtain ⟨RA, rc, hy, _, hrr⟩ := hinr
                          have hrl : (b.got.drop k).length = q := by rw [List.length_drop]; omega
                          rw [hrl] at hy
                          subst hy
                          obtain ⟨b2, o2, rfl, hz0⟩ := hrr.at2 (k := 0) (by rw [List.length_map]; omega)
                          clear hz0
                          have HC2 : Hid (∀ i, i < q → we.cell? ⟨b2, o2 + i, none⟩ = some (.int .u8 ((100 + i : Nat) : Int))) := Lib.hid fun i hi => by
                            have hv : (b.got.drop k)[i]? = some (UInt8.ofNat (100 + i)) := by rw [List.getElem?_drop]; exact HK2.out i hi
                            obtain ⟨hlt, e⟩ := List.getElem?_eq_some_iff.1 hv
                            obtain ⟨b', o', e', hc⟩ := hrr.at2 (k := i) (by simpa using hlt)
                            cases e'
                            have h1 : bv (UInt8.ofNat (100 + i)) = .int .u8 ((UInt8.ofNat (100 + i)).toNat : Int) := rfl
                            rw [hc, List.getElem_map, e, h1, u8_of _ (by omega)]
                          have hext := hX.ext
                          have hkK : k < K := by omega
                          clear hba hbb hra hrb hX hib hrd hrr hkl hK
                          go_wp2_with fail
                          go_loopw [18] (fun i wr => ∃ n : Nat, i = .int .i64 (n : Int) ∧ n ≤ k ∧ wr = we) (fun i _ => k - (intOf i).toNat)
                          case atStart => exact ⟨0, rfl, by omega, rfl⟩
                          case round =>
                            obtain ⟨n, rfl, hn, hwe⟩ := hrel
                            subst hwe
                            go_upto_region 29 with fail
                            go_cut [181] (fun s wx => ∃ d : Bool, s = .bool d ∧ (d = true ↔ n < k) ∧ wx = wr)
                            case first =>
                              have d1 : decide ((n : Int) < (K : Int)) = true := by simp; omega
                              have hni : (n : Int) < (K : Int) := by omega
                              have hwu : IntKind.u8.wrap (n : Int) = (n : Int) := by rw [IntKind.wrap_u8]; omega
                              by_cases hnk : n < k
                              · have d2 : decide ((n : Int) < (j : Int)) = true := by simp; omega
                                have hc := HC.out n _ (HK1.out n hnk)
                                rw [u8_of n (by omega)] at hc
                                have d3 : ((n : Int) == (n : Int)) = true := by simp
                                go_wp2_with fail
                                go_meet
                                exact ⟨true, rfl, by simp [hnk], rfl⟩
                              · obtain rfl : n = k := by omega
                                by_cases hkj : n < j
                                · have d2 : decide ((n : Int) < (j : Int)) = true := by simp; omega
                                  have hc := HC.out n _ (HK2.out 0 (by omega))
                                  rw [u8_of (100 + 0) (by omega)] at hc
                                  have hc' : wr.cell? ⟨bo, oo + n, none⟩ = some (.int .u8 100) := hc
                                  clear hc
                                  have d3 : ((100 : Int) == (n : Int)) = false := by rw [beq_eq_false_iff_ne]; omega
                                  go_wp2_with fail
                                  go_meet
                                  exact ⟨false, rfl, by simp, rfl⟩
                                · have d2 : decide ((n : Int) < (j : Int)) = false := by simp; omega
                                  go_wp2_with fail
                                  go_meet
                                  exact ⟨false, rfl, by simp, rfl⟩
                            obtain ⟨d, rfl, hd, hwe⟩ := hcut
                            subst hwe
                            cases d with
                            | true =>
                              have hnk := hd.1 rfl
                              go_wp2_with fail
                              go_roundw
                              case rel => exact ⟨n + 1, by first | (with_reducible rfl) | go_num, by omega, by trivial⟩
                              case measure => simp [intOf]; omega
                            | false =>
                              have hnk : ¬ n < k := fun h => by have := hd.2 h; cases this
                              obtain rfl : n = k := by omega
                              clear hd hnk hn
                              have t1 : ((q : Int) != (q : Int)) = false := by simp
                              go_wp2_with fail
                              go_loopw [20] (fun i wr => ∃ m : Nat, i = .int .i64 (m : Int) ∧ m ≤ q ∧ wr = wc) (fun i _ => q - (intOf i).toNat)
                              case atStart => exact ⟨0, rfl, by omega, rfl⟩
                              case round =>
                                obtain ⟨m, rfl, hm, hwe⟩ := hrel
                                subst hwe
                                by_cases hmq : m < q
                                · have hij : (m : Int) < (q : Int) := by omega
                                  have hc := HC2.out m hmq
                                  have hw1 : IntKind.i64.wrap (100 + (m : Int)) = ((100 + m : Nat) : Int) := by rw [IntKind.wrap_i64]; omega
                                  have hw2 : IntKind.u8.wrap ((100 + m : Nat) : Int) = ((100 + m : Nat) : Int) := by rw [IntKind.wrap_u8]; omega
                                  have d3 : (((100 + m : Nat) : Int) != ((100 + m : Nat) : Int)) = false := by simp
                                  go_wp2_with fail
                                  go_roundw
                                  case rel => exact ⟨m + 1, by first | (with_reducible rfl) | go_num, by omega, by trivial⟩
                                  case measure => simp [intOf]; omega
                                · obtain rfl : m = q := by omega
                                  have hij : ¬ (m : Int) < (m : Int) := by omega
                                  go_wp2_with fail
                                  go_ret
                                  exact ⟨rfl, hext⟩
                    · have HFI : Hid (Fin_ j q a b) := Lib.hid (HR.out.fin (.inl (by omega)))
                      have hij : ¬ (V : Int) < ((U + 3000 : Nat) : Int) := by omega
                      clear hV hV1 HR
                      obtain ⟨we, rfl⟩ : ∃ we : World, we = wo := ⟨_, rfl⟩
                      have HFN := Lib.hid HFI.out.ex
                      have hrb := HFI.out.rb
                      have hra := HFI.out.ra
                      clear HFI
                      obtain ⟨k, hkB, hkl, hk1, hk2⟩ := HFN.out
                      have HK1 := Lib.hid hk1
                      have HK2 := Lib.hid hk2
                      clear hk1 hk2 HFN
                      have hib : InB we gB b.got := hX.ob.inV
                      obtain ⟨Aq, cq, Af, fc, ftv, zs, hba, _⟩ := hX.sa.ex
                      obtain ⟨Bq, dq, Bf, fd, ftw, zt, hbb, _⟩ := hX.sb.ex
                      rw [hra] at hba
                      rw [hrb] at hbb
                      obtain ⟨_, _, _, _, a12⟩ := sd_at hba
                      obtain ⟨_, _, _, b11, b12⟩ := sd_at hbb
                      obtain ⟨GB, gc, hgb, _, hrd⟩ := hX.ob.inV
                      obtain ⟨K, hK⟩ : ∃ K, K = k + q := ⟨_, rfl⟩
                      rw [hkl, ← hK] at hgb
                      subst hgb
                      obtain ⟨bo, oo, rfl, hz0⟩ := hrd.at2 (k := 0) (by simp; omega)
                      clear hz0
                      have HC : Hid (∀ n (v : UInt8), b.got[n]? = some v → we.cell? ⟨bo, oo + n, none⟩ = some (.int .u8 (v.toNat : Int))) := Lib.hid fun n v hv => by
                        obtain ⟨hlt, e⟩ := List.getElem?_eq_some_iff.1 hv
                        obtain ⟨b', o', e', hc⟩ := hrd.at2 (k := n) (by simpa using hlt)
                        cases e'
                        rw [hc, List.getElem_map, e]
                        rfl
                      obtain ⟨yr, hyr, hinr⟩ := sufB hib k (by omega)
                      obtain ⟨RA, rc, hy, _, hrr⟩ := hinr
                      have hrl : (b.got.drop k).length = q := by rw [List.length_drop]; omega
                      rw [hrl] at hy
                      subst hy
                      obtain ⟨b2, o2, rfl, hz0⟩ := hrr.at2 (k := 0) (by rw [List.length_map]; omega)
                      clear hz0
                      have HC2 : Hid (∀ i, i < q → we.cell? ⟨b2, o2 + i, none⟩ = some (.int .u8 ((100 + i : Nat) : Int))) := Lib.hid fun i hi => by
                        have hv : (b.got.drop k)[i]? = some (UInt8.ofNat (100 + i)) := by rw [List.getElem?_drop]; exact HK2.out i hi
                        obtain ⟨hlt, e⟩ := List.getElem?_eq_some_iff.1 hv
                        obtain ⟨b', o', e', hc⟩ := hrr.at2 (k := i) (by simpa using hlt)
                        cases e'
                        have h1 : bv (UInt8.ofNat (100 + i)) = .int .u8 ((UInt8.ofNat (100 + i)).toNat : Int) := rfl
                        rw [hc, List.getElem_map, e, h1, u8_of _ (by omega)]
                      have hext := hX.ext
                      have hkK : k < K := by omega
                      clear hba hbb hra hrb hX hib hrd hrr hkl hK
                      go_wp2_with fail
                      go_loopw [18] (fun i wr => ∃ n : Nat, i = .int .i64 (n : Int) ∧ n ≤ k ∧ wr = we) (fun i _ => k - (intOf i).toNat)
                      case atStart => exact ⟨0, rfl, by omega, rfl⟩
                      case round =>
                        obtain ⟨n, rfl, hn, hwe⟩ := hrel
                        subst hwe
                        go_upto_region 29 with fail
                        go_cut [181] (fun s wx => ∃ d : Bool, s = .bool d ∧ (d = true ↔ n < k) ∧ wx = wr)
                        case first =>
                          have d1 : decide ((n : Int) < (K : Int)) = true := by simp; omega
                          have hni : (n : Int) < (K : Int) := by omega
                          have hwu : IntKind.u8.wrap (n : Int) = (n : Int) := by rw [IntKind.wrap_u8]; omega
                          by_cases hnk : n < k
                          · have d2 : decide ((n : Int) < (j : Int)) = true := by simp; omega
                            have hc := HC.out n _ (HK1.out n hnk)
                            rw [u8_of n (by omega)] at hc
                            have d3 : ((n : Int) == (n : Int)) = true := by simp
                            go_wp2_with fail
                            go_meet
                            exact ⟨true, rfl, by simp [hnk], rfl⟩
                          · obtain rfl : n = k := by omega
                            by_cases hkj : n < j
                            · have d2 : decide ((n : Int) < (j : Int)) = true := by simp; omega
                              have hc := HC.out n _ (HK2.out 0 (by omega))
                              rw [u8_of (100 + 0) (by omega)] at hc
                              have hc' : wr.cell? ⟨bo, oo + n, none⟩ = some (.int .u8 100) := hc
                              clear hc
                              have d3 : ((100 : Int) == (n : Int)) = false := by rw [beq_eq_false_iff_ne]; omega
                              go_wp2_with fail
                              go_meet
                              exact ⟨false, rfl, by simp, rfl⟩
                            · have d2 : decide ((n : Int) < (j : Int)) = false := by simp; omega
                              go_wp2_with fail
                              go_meet
                              exact ⟨false, rfl, by simp, rfl⟩
                        obtain ⟨d, rfl, hd, hwe⟩ := hcut
                        subst hwe
                        cases d with
                        | true =>
                          have hnk := hd.1 rfl
                          go_wp2_with fail
                          go_roundw
                          case rel => exact ⟨n + 1, by first | (with_reducible rfl) | go_num, by omega, by trivial⟩
                          case measure => simp [intOf]; omega
                        | false =>
                          have hnk : ¬ n < k := fun h => by have := hd.2 h; cases this
                          obtain rfl : n = k := by omega
                          clear hd hnk hn
                          have t1 : ((q : Int) != (q : Int)) = false := by simp
                          go_wp2_with fail
                          go_loopw [20] (fun i wr => ∃ m : Nat, i = .int .i64 (m : Int) ∧ m ≤ q ∧ wr = wc) (fun i _ => q - (intOf i).toNat)
                          case atStart => exact ⟨0, rfl, by omega, rfl⟩
                          case round =>
                            obtain ⟨m, rfl, hm, hwe⟩ := hrel
                            subst hwe
                            by_cases hmq : m < q
                            · have hij : (m : Int) < (q : Int) := by omega
                              have hc := HC2.out m hmq
                              have hw1 : IntKind.i64.wrap (100 + (m : Int)) = ((100 + m : Nat) : Int) := by rw [IntKind.wrap_i64]; omega
                              have hw2 : IntKind.u8.wrap ((100 + m : Nat) : Int) = ((100 + m : Nat) : Int) := by rw [IntKind.wrap_u8]; omega
                              have d3 : (((100 + m : Nat) : Int) != ((100 + m : Nat) : Int)) = false := by simp
                              go_wp2_with fail
                              go_roundw
                              case rel => exact ⟨m + 1, by first | (with_reducible rfl) | go_num, by omega, by trivial⟩
                              case measure => simp [intOf]; omega
                            · obtain rfl : m = q := by omega
                              have hij : ¬ (m : Int) < (m : Int) := by omega
                              go_wp2_with fail
                              go_ret
                              exact ⟨rfl, hext⟩
end Go.Proofs.Ytnobepobalpccaa
