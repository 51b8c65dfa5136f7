/- The contracts of packet.Right and of the reference's Right. -/
import Derived.Test.YtnobepobalpccaaPacketA
import Derived.Test.YtnobepobalpccaaBase2
import Derived.Deep.DeepCutAuto
import Derived.Outline
namespace Go.Proofs.Ytnobepobalpccaa
open Go.RowKit
set_option linter.unusedVariables false

/-- a packet -/
structure Pkt where
  kind : Int
  src : Int
  dst : Int
  seq : Int
  ack : Int
  body : List UInt8
def PktAt (w : World) (v : Value) (p : Pkt) : Prop := ∃ y, v = .agg #[.int .i64 p.kind, .int .i64 p.src, .int .i64 p.dst, .int .i64 p.seq, .int .i64 p.ack, y] ∧ InB w y p.body
theorem PktAt.ext {w w' : World} {v : Value} {p : Pkt} (h : PktAt w v p) (he : Ext w w') : PktAt w' v p := by
  obtain ⟨y, rfl, hy⟩ := h
  exact ⟨y, rfl, hy.ext he⟩

/-- the call answers whether p holds -/
def Tells (p : Prop) (w : World) (e : Ending) (w' : World) : Prop := ∃ r : Bool, e = .returned (.bool r) ∧ (r = true ↔ p) ∧ Ext w w'
theorem Tells.yes {p : Prop} {w w' : World} (hp : p) (he : Ext w w') : Tells p w (.returned (.bool true)) w' := ⟨true, rfl, ⟨fun _ => hp, fun _ => rfl⟩, he⟩
theorem Tells.no {p : Prop} {w w' : World} (hp : ¬ p) (he : Ext w w') : Tells p w (.returned (.bool false)) w' := ⟨false, rfl, ⟨(fun h => by cases h), fun h => absurd h hp⟩, he⟩

def badP (p : Pkt) : Prop := p.kind < 1 ∨ 3 < p.kind ∨ p.src < 1 ∨ 6000 < p.body.length
def okN (n : Int) : Prop := 0 ≤ n ∧ n ≤ 1073741824
def numP (p : Pkt) : Nat → Int
  | 0 => p.src
  | 1 => p.dst
  | 2 => p.seq
  | _ => p.ack
/-- may it be encoded? -/
def rightP (p : Pkt) : Prop := ¬ badP p ∧ (∀ i, i < 4 → okN (numP p i)) ∧ ((p.kind = 2 → 1 ≤ p.seq) ∧ (p.kind ≠ 2 → p.seq = 0 ∧ p.body.length = 0))

theorem blk6 {w : World} {g : Nat} {a b c d e f : Value} {t : TypeId} (H : w.heap[g]? = some (.cells #[a, b, c, d, e, f] t (0, 0))) :
    w.cell? ⟨g, 0, none⟩ = some a ∧ w.cell? ⟨g, 1, none⟩ = some b ∧ w.cell? ⟨g, 2, none⟩ = some c ∧ w.cell? ⟨g, 3, none⟩ = some d ∧ w.cell? ⟨g, 4, none⟩ = some e ∧ w.cell? ⟨g, 5, none⟩ = some f :=
  ⟨blk_at H 0 a rfl, blk_at H 1 b rfl, blk_at H 2 c rfl, blk_at H 3 d rfl, blk_at H 4 e rfl, blk_at H 5 f rfl⟩

set_option maxHeartbeats 1000000 in
set_option maxRecDepth 100000 in
theorem Right_any (v : Value) (p : Pkt) (w : World) (hp : PktAt w v p) (hl : p.body.length ≤ 9223372036854775807) :
    Calls Try.prog 24 #[v] w (Tells (rightP p) w) := by
  obtain ⟨y, rfl, ⟨A, c, rfl, _, hr⟩⟩ := hp
  go_enter Try.func24, Try.ntmps24
  go_upto_region 1 with fail
  obtain ⟨W, hW, hE, hB⟩ : ∃ W, W = w.alloc (.cells #[.int .i64 p.kind, .int .i64 p.src, .int .i64 p.dst, .int .i64 p.seq, .int .i64 p.ack, .slice A p.body.length c] 56) ∧ Ext w W ∧ W.heap[w.heap.size]? = some (.cells #[.int .i64 p.kind, .int .i64 p.src, .int .i64 p.dst, .int .i64 p.seq, .int .i64 p.ack, .slice A p.body.length c] 56 (0, 0)) :=
    ⟨_, rfl, (Ext.refl w).alloc _, heap_alloc_new w _⟩
  rw [← hW]
  clear hW
  obtain ⟨q0, q1, q2, q3, q4, q5⟩ := blk6 hB
  go_cut [23] (fun s wx => (∃ r : Bool, s = .bool r ∧ (r = true ↔ badP p)) ∧ W = wx)
  case first =>
    by_cases e1 : p.kind < 1
    · have t1 : decide (p.kind < 1) = true := by simpa using e1
      go_wp2_with fail
      go_meet
      exact ⟨⟨true, rfl, by simp [badP, e1]⟩, rfl⟩
    · have t1 : decide (p.kind < 1) = false := by simpa using e1
      by_cases e2 : 3 < p.kind
      · have t2 : decide (3 < p.kind) = true := by simpa using e2
        go_wp2_with fail
        go_meet
        exact ⟨⟨true, rfl, by simp [badP, e2]⟩, rfl⟩
      · have t2 : decide (3 < p.kind) = false := by simpa using e2
        by_cases e3 : p.src < 1
        · have t3 : decide (p.src < 1) = true := by simpa using e3
          go_wp2_with fail
          go_meet
          exact ⟨⟨true, rfl, by simp [badP, e3]⟩, rfl⟩
        · have t3 : decide (p.src < 1) = false := by simpa using e3
          by_cases e4 : 6000 < p.body.length
          · have t4 : decide ((6000 : Int) < (p.body.length : Int)) = true := by simp; omega
            go_wp2_with fail
            go_meet
            exact ⟨⟨true, rfl, by simp [badP, e4]⟩, rfl⟩
          · have t4 : decide ((6000 : Int) < (p.body.length : Int)) = false := by simp; omega
            go_wp2_with fail
            go_meet
            exact ⟨⟨false, rfl, by simp [badP]; omega⟩, rfl⟩
  case rest =>
    obtain ⟨⟨r, rfl, hr1⟩, rfl⟩ := hcut
    cases r with
    | true =>
      have HB := Lib.hid (hr1.1 rfl)
      clear hr1
      go_wp2_with fail
      go_ret
      exact Tells.no (fun h => h.1 HB.out) hE
    | false =>
      have HB : Hid (¬ badP p) := Lib.hid (fun h => by have := hr1.2 h; cases this)
      clear hr1
      go_wp2_with fail
      have hidx : ∀ j : Nat, j < 4 → ∀ w, (Instr.index 73 (.agg #[.int .i64 p.src, .int .i64 p.dst, .int .i64 p.seq, .int .i64 p.ack]) (.int .i64 (j : Int))).run Try.prog w = .ok (.int .i64 (numP p j)) w := by
        intro j hj w
        rcases (show j = 0 ∨ j = 1 ∨ j = 2 ∨ j = 3 by omega) with rfl | rfl | rfl | rfl <;> kernel_rfl
      have HI := Lib.hid hidx
      clear hidx
      go_loop [33] (fun i => ∃ j : Nat, j ≤ 4 ∧ i = .int .i64 (j : Int) ∧ ∀ i, i < j → okN (numP p i)) (fun i => 4 - (intOf i).toNat)
      case atStart => exact ⟨0, by omega, rfl, fun i hi => absurd hi (by omega)⟩
      case round =>
        obtain ⟨j, hj, rfl, hall⟩ := hrel
        have HA := Lib.hid hall
        clear hall
        by_cases hj4 : j < 4
        · have hi0 := HI.out j hj4
          have hij : (j : Int) < 4 := by omega
          have HN : Hid (okN (numP p j) → ∀ i, i < j + 1 → okN (numP p i)) := Lib.hid fun h i hi => by
            by_cases e : i = j
            · subst e; exact h
            · exact HA.out i (by omega)
          have HM : Hid (¬ okN (numP p j) → ¬ rightP p) := Lib.hid fun h hR => h (hR.2.1 j hj4)
          generalize numP p j = n at *
          by_cases e1 : n < 0
          · have t1 : decide (n < 0) = true := by simpa using e1
            go_wp2_with fail
            go_ret
            exact Tells.no (HM.out (fun h => by have := h.1; omega)) hE
          · have t1 : decide (n < 0) = false := by simpa using e1
            by_cases e2 : 1073741824 < n
            · have t2 : decide (1073741824 < n) = true := by simpa using e2
              go_wp2_with fail
              go_ret
              exact Tells.no (HM.out (fun h => by have := h.2; omega)) hE
            · have t2 : decide (1073741824 < n) = false := by simpa using e2
              have HN2 := Lib.hid (HN.out ⟨by omega, by omega⟩)
              go_wp2_with fail
              go_round
              case rel => exact ⟨j + 1, by omega, by go_num, HN2.out⟩
              case measure => simp [intOf]; omega
        · obtain rfl : j = 4 := by omega
          by_cases hk : p.kind = 2
          · have t1 : (p.kind == 2) = true := by simpa using hk
            have HK := Lib.hid hk
            clear hk
            by_cases hs : 1 ≤ p.seq
            · have t2 : decide (1 ≤ p.seq) = true := by simpa using hs
              go_wp2_with fail
              go_ret
              exact Tells.yes ⟨HB.out, HA.out, fun _ => hs, fun h => absurd HK.out h⟩ hE
            · have t2 : decide (1 ≤ p.seq) = false := by simpa using hs
              go_wp2_with fail
              go_ret
              exact Tells.no (fun h => by have := h.2.2.1 HK.out; omega) hE
          · have t1 : (p.kind == 2) = false := by simpa using hk
            by_cases hs : p.seq = 0
            · have t2 : (p.seq == 0) = true := by simpa using hs
              have HK := Lib.hid hs
              by_cases hb : p.body.length = 0
              · have t3 : ((p.body.length : Int) == 0) = true := by simp [hb]
                have HL := Lib.hid hb
                clear hb hs
                go_wp2_with fail
                go_ret
                exact Tells.yes ⟨HB.out, HA.out, fun h => absurd h hk, fun _ => ⟨HK.out, HL.out⟩⟩ hE
              · have t3 : ((p.body.length : Int) == 0) = false := by simpa using hb
                clear hs
                go_wp2_with fail
                go_ret
                exact Tells.no (fun h => hb (h.2.2.2 hk).2) hE
            · have t2 : (p.seq == 0) = false := by simpa using hs
              go_wp2_with fail
              go_ret
              exact Tells.no (fun h => hs (h.2.2.2 hk).1) hE

theorem four_ok {p : Pkt} (h0 : okN p.src) (h1 : okN p.dst) (h2 : okN p.seq) (h3 : okN p.ack) : ∀ i, i < 4 → okN (numP p i) := fun i hi => by
  rcases (show i = 0 ∨ i = 1 ∨ i = 2 ∨ i = 3 by omega) with rfl | rfl | rfl | rfl
  · exact h0
  · exact h1
  · exact h2
  · exact h3
theorem four_of {p : Pkt} (h : ∀ i, i < 4 → okN (numP p i)) : okN p.src ∧ okN p.dst ∧ okN p.seq ∧ okN p.ack := ⟨h 0 (by omega), h 1 (by omega), h 2 (by omega), h 3 (by omega)⟩

end Go.Proofs.Ytnobepobalpccaa
