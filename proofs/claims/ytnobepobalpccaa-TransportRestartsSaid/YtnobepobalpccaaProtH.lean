/- What holds of a side whatever arrives: bounds; damage is seen. No walk here. -/
import Derived.Test.YtnobepobalpccaaProtG
import Derived.Test.YtnobepobalpccaaBurst2
import Derived.Test.YtnobepobalpccaaPacketL
namespace Go.Proofs.Ytnobepobalpccaa
set_option linter.unusedVariables false

def dmgF (f : Fate) (i : Nat) : Bool := if ((i / 8 : Nat) : Int) = f.at_ then (hiM f).toNat.testBit (7 - i % 8) else if 0 < i / 8 ∧ ((i / 8 : Nat) : Int) - 1 = f.at_ then (loM f).toNat.testBit (7 - i % 8) else false
theorem dmgL_len (b : List UInt8) (f : Fate) : (damagedL b f).length = b.length := by simp [damagedL]
theorem dmg_bit {b : List UInt8} {f : Fate} (hat : 0 ≤ f.at_) {i : Nat} (hi : i < 8 * b.length) : bitAt (damagedL b f) i = xor (bitAt b i) (dmgF f i) := by
  have hk : i / 8 < b.length := by omega
  have h1 : (damagedL b f).getD (i / 8) 0 = dmgB f (i / 8) b[i / 8] := by
    rw [List.getD_eq_getElem?_getD, List.getElem?_eq_getElem (by rw [dmgL_len]; exact hk)]
    simp [damagedL]
  have h2 : b.getD (i / 8) 0 = b[i / 8] := by rw [List.getD_eq_getElem?_getD, List.getElem?_eq_getElem hk]; rfl
  rw [bitAt, bitAt, h1, h2, dmgF]
  generalize i / 8 = k at *
  generalize b[k] = c at *
  unfold dmgB dmgA
  by_cases e1 : (k : Int) = f.at_
  · have e2 : ¬ dmgC f k := by unfold dmgC; omega
    rw [if_neg e2, if_pos e1, if_pos e1, UInt8.toNat_xor, Nat.testBit_xor]
  · rw [if_neg e1, if_neg e1]
    by_cases e2 : 0 < k ∧ (k : Int) - 1 = f.at_
    · have e3 : dmgC f k := .inl e2
      rw [if_pos e3, if_pos e2, UInt8.toNat_xor, Nat.testBit_xor]
    · have e3 : ¬ dmgC f k := by unfold dmgC; omega
      rw [if_neg e3, if_neg e2]
      simp
theorem dmg_far {b : List UInt8} {f : Fate} (h : (b.length : Int) ≤ f.at_) : damagedL b f = b := by
  apply List.ext_getElem
  · rw [dmgL_len]
  · intro i h1 h2
    have e1 : ¬ (i : Int) = f.at_ := by omega
    have e2 : ¬ dmgC f i := by unfold dmgC; omega
    simp only [damagedL, List.getElem_mapIdx, dmgB, dmgA]
    rw [if_neg e2, if_neg e1]
/-- damage is seen -/
theorem dmg_dec {p q : Pkt} {f : Fate} (hp : rightP p) (hf : f.OK) (h : DecIs (damagedL (encP p) f) q 0) : q = p := by
  have hl := enc_len hp
  have hx : damagedL (encP p) f = encP p := by
    by_cases ha : f.at_ < (encP p).length
    · have hc : crcOK (damagedL (encP p) f) := by
        rcases h with ⟨_, _, h⟩ | ⟨_, _, _, h⟩ | ⟨_, _, h, _⟩
        · cases h
        · cases h
        · exact h
      refine burst_law (dmgL_len _ _) (by omega) (8 * f.at_.toNat) (dmgF f) (by have := hf.at_; omega) (fun i hi => ?_) (fun i hi => dmg_bit hf.at_.1 hi) (enc_crc p) hc
      have := hf.at_
      unfold dmgF at hi
      split at hi
      · omega
      · split at hi
        · omega
        · cases hi
    · exact dmg_far (by omega)
  rw [hx] at h
  exact (dec_own hp h).1
/-- an endpoint within its bounds -/
structure EP.LS (e : EP) : Prop where
  epoch : 1 ≤ e.epoch ∧ e.epoch ≤ 20
  peer : 0 ≤ e.peer ∧ e.peer ≤ 20
  cons : e.Cons
  got : 0 ≤ e.got ∧ e.got ≤ 1000
  all : e.acked + e.queue.length ≤ 1000
  timer : 0 ≤ e.timer ∧ e.timer ≤ 20000
  bodies : ∀ b ∈ e.queue, b.length ≤ 10
def Good (b : List UInt8) : Prop := b.length ≤ 10000 ∧ ∀ p, DecIs b p 0 → p.src ≤ 20 ∧ p.seq ≤ 1000 ∧ p.body.length ≤ 10
theorem EP.LS.tame {e : EP} (h : e.LS) : e.Tame := by
  obtain ⟨c1, c2, c3⟩ := h.cons
  have h1 := h.epoch
  have h2 := h.peer
  have h3 := h.got
  have h4 := h.all
  have h5 := h.timer
  refine ⟨?_, ?_, ?_, ?_, ?_, ?_, by omega, fun b hb => by have := h.bodies b hb; omega⟩ <;> unfold Go.Proofs.Ytnobepobalpccaa.tame <;> omega
/-- a packet that an endpoint within its bounds may send -/
structure PGood (e : EP) (p : Pkt) : Prop where
  right : rightP p
  src : p.src = e.epoch
  seq : p.seq ≤ 1000
  body : p.body.length ≤ 10
theorem sendF_mem {out : List (List UInt8)} {p : Pkt} {b : List UInt8} (h : b ∈ sendF out p) : b ∈ out ∨ (rightP p ∧ b = encP p) := by
  unfold sendF at h
  split at h
  · rename_i hr
    rcases List.mem_append.1 h with h | h
    · exact .inl h
    · simp only [List.mem_singleton] at h
      exact .inr ⟨hr, h⟩
  · exact .inl h
theorem outsL_mem {e : EP} {s0 : Int} {b : List UInt8} : ∀ {k : Nat}, b ∈ outsL e s0 k → ∃ j, j < k ∧ rightP (dataP e s0 j) ∧ b = encP (dataP e s0 j)
  | 0, h => by simp [outsL] at h
  | k + 1, h => by
    rw [outsL] at h
    rcases sendF_mem h with h | ⟨h1, h2⟩
    · obtain ⟨j, hj, h3⟩ := outsL_mem h
      exact ⟨j, by omega, h3⟩
    · exact ⟨k, by omega, h1, h2⟩
theorem first_cases (e : EP) (now : Int) (hc : e.Cons) : e.acked ≤ e.first now ∧ e.first now ≤ e.sent ∧ (e.first now = e.acked ∨ e.first now = e.sent) := by
  obtain ⟨h1, h2, h3⟩ := hc
  unfold EP.first
  split
  · exact ⟨by omega, by omega, .inl rfl⟩
  · exact ⟨by omega, by omega, .inr rfl⟩
/-- what is sent at a tick -/
theorem pollF_mem {e : EP} {now : Int} (h : e.LS) {b : List UInt8} (hb : b ∈ (pollF e now).2) : ∃ p, PGood e p ∧ b = encP p := by
  have hb' : b ∈ (pollM e now).2 := hb
  unfold pollM at hb'
  split at hb'
  · split at hb'
    · rcases sendF_mem hb' with hb' | ⟨h1, h2⟩
      · simp at hb'
      · exact ⟨_, ⟨h1, rfl, by show (0 : Int) ≤ 1000; omega, by simp⟩, h2⟩
    · simp at hb'
  · obtain ⟨f1, f2, f3⟩ := first_cases e now h.cons
    have hall := h.all
    have hout : ∀ b ∈ outsL e (e.first now) (min 4 e.queue.length - (e.first now - e.acked).toNat), ∃ p, PGood e p ∧ b = encP p := by
      intro b hb
      obtain ⟨j, hj, hr, rfl⟩ := outsL_mem hb
      refine ⟨_, ⟨hr, rfl, ?_, ?_⟩, rfl⟩
      · show e.first now + (j : Int) + 1 ≤ 1000
        omega
      · show ((e.queue[(e.first now - e.acked).toNat + j]?).getD []).length ≤ 10
        rw [List.getElem?_eq_getElem (by omega)]
        exact h.bodies _ (List.getElem_mem _)
    simp only at hb'
    split at hb'
    · rcases sendF_mem hb' with hb' | ⟨h1, h2⟩
      · exact hout b hb'
      · exact ⟨_, ⟨h1, rfl, by show (0 : Int) ≤ 1000; omega, by simp⟩, h2⟩
    · exact hout b hb'
theorem EP.LS.poll {e : EP} (h : e.LS) {now : Int} (hn : 0 ≤ now ∧ now ≤ 10000) : (pollF e now).1.LS := by
  have hq : ∀ (e' : EP) out, (e'.quiet out).LS ↔ e'.LS := fun e' out => ⟨fun k => ⟨k.epoch, k.peer, k.cons, k.got, k.all, k.timer, k.bodies⟩, fun k => ⟨k.epoch, k.peer, k.cons, k.got, k.all, k.timer, k.bodies⟩⟩
  show ((pollM e now).1.quiet (pollM e now).2).LS
  rw [hq]
  unfold pollM
  split
  · split
    · exact ⟨h.epoch, h.peer, h.cons, h.got, h.all, ⟨by show 0 ≤ now + 8; omega, by show now + 8 ≤ 20000; omega⟩, h.bodies⟩
    · exact h
  · obtain ⟨f1, f2, f3⟩ := first_cases e now h.cons
    obtain ⟨c1, c2, c3⟩ := h.cons
    have ht := h.timer
    simp only
    generalize hk : min 4 e.queue.length - (e.first now - e.acked).toNat = k
    refine ⟨h.epoch, h.peer, ⟨c1, by show e.acked ≤ e.first now + (k : Int); omega, by show e.first now + (k : Int) - e.acked ≤ _; show _ ≤ (e.queue.length : Int); omega⟩, h.got, h.all, ?_, h.bodies⟩
    show 0 ≤ (if k = 0 then e.timer else now + 8) ∧ (if k = 0 then e.timer else now + 8) ≤ 20000
    split <;> omega
theorem EP.LS.recv {e : EP} (h : e.LS) {p : Pkt} {er : Int} (hr : er = 0 → rightP p) (hg : er = 0 → p.src ≤ 20 ∧ p.seq ≤ 1000 ∧ p.body.length ≤ 10) :
    (recvF e p er).1.LS ∧ ((recvF e p er).2.1.flatten.length : Int) + 10 * (1000 * e.peer + e.got) ≤ 10 * (1000 * (recvF e p er).1.peer + (recvF e p er).1.got) ∧ ((if (recvF e p er).2.2 then 1 else 0 : Int) + e.peer ≤ (recvF e p er).1.peer) := by
  have h1 : ∀ e1 rs, (e1, rs) = recv1 e p → er = 0 → e1.LS ∧ 10 * (1000 * e.peer + e.got) ≤ 10 * (1000 * e1.peer + e1.got) ∧ (if rs then 1 else 0 : Int) + e.peer ≤ e1.peer := by
    intro e1 rs he h0
    have hn := (hr h0).nums
    have hg' := hg h0
    have hpe := h.peer
    have hgo := h.got
    unfold recv1 at he
    split at he
    · rename_i hlt
      injection he with he1 he2
      subst he1
      subst he2
      refine ⟨⟨h.epoch, ⟨by show 0 ≤ p.src; omega, hg'.1⟩, ⟨by show (0 : Int) ≤ 0; omega, by show (0 : Int) ≤ 0; omega, ?_⟩, ⟨by show (0 : Int) ≤ 0; omega, by show (0 : Int) ≤ 1000; omega⟩, ?_, ⟨by show (0 : Int) ≤ 0; omega, by show (0 : Int) ≤ 20000; omega⟩, ?_⟩, ?_, ?_⟩
      · show (0 : Int) - 0 ≤ ((if e.peer = 0 then e.queue else []).length : Int); omega
      · show (0 : Int) + ((if e.peer = 0 then e.queue else []).length : Int) ≤ 1000
        have := h.all
        have := h.cons.1
        split
        · omega
        · simp
      · show ∀ b ∈ (if e.peer = 0 then e.queue else []), b.length ≤ 10
        split
        · exact h.bodies
        · simp
      · show 10 * (1000 * e.peer + e.got) ≤ 10 * (1000 * p.src + 0)
        omega
      · show (if (!decide (e.peer = 0)) = true then 1 else 0 : Int) + e.peer ≤ p.src
        split <;> omega
    · injection he with he1 he2
      subst he1
      subst he2
      exact ⟨h, Int.le_refl _, by simp⟩
  have h2 : ∀ e1 : EP, e1.LS → er = 0 → (recv2 e1 p).LS ∧ (recv2 e1 p).peer = e1.peer ∧ (recv2 e1 p).got = e1.got := by
    intro e1 he h0
    unfold recv2
    split
    · rename_i ha
      obtain ⟨c1, c2, c3⟩ := he.cons
      have hall := he.all
      refine ⟨⟨he.epoch, he.peer, ⟨by show 0 ≤ p.ack; omega, by show p.ack ≤ max e1.sent p.ack; omega, ?_⟩, he.got, ?_, he.timer, fun b hb => he.bodies b (List.mem_of_mem_drop hb)⟩, rfl, rfl⟩
      · show max e1.sent p.ack - p.ack ≤ ((e1.queue.drop (p.ack - e1.acked).toNat).length : Int)
        rw [List.length_drop]; omega
      · show p.ack + ((e1.queue.drop (p.ack - e1.acked).toNat).length : Int) ≤ 1000
        rw [List.length_drop]; omega
    · exact ⟨he, rfl, rfl⟩
  have h3 : ∀ e1 : EP, e1.LS → er = 0 → (recv3 e1 p).1.LS ∧ (recv3 e1 p).1.peer = e1.peer ∧ ((recv3 e1 p).2.flatten.length : Int) + 10 * e1.got ≤ 10 * (recv3 e1 p).1.got := by
    intro e1 he h0
    have hg' := hg h0
    have hgo := he.got
    unfold recv3
    split
    · split
      · rename_i hs
        refine ⟨⟨he.epoch, he.peer, he.cons, ⟨by show 0 ≤ e1.got + 1; omega, by show e1.got + 1 ≤ 1000; omega⟩, he.all, he.timer, he.bodies⟩, rfl, ?_⟩
        show (([p.body].flatten.length : Nat) : Int) + 10 * e1.got ≤ 10 * (e1.got + 1)
        simp; omega
      · exact ⟨⟨he.epoch, he.peer, he.cons, he.got, he.all, he.timer, he.bodies⟩, rfl, by simp [EP.owes]⟩
    · split
      · exact ⟨⟨he.epoch, he.peer, he.cons, he.got, he.all, he.timer, he.bodies⟩, rfl, by simp [EP.owes]⟩
      · exact ⟨he, rfl, by simp⟩
  unfold recvF
  split
  · exact ⟨h, by simp, by simp⟩
  · rename_i hne
    have h0 : er = 0 := Classical.byContradiction fun h => hne (.inl h)
    obtain ⟨a1, a2, a3⟩ := h1 (recv1 e p).1 (recv1 e p).2 rfl h0
    split
    · refine ⟨⟨a1.epoch, a1.peer, a1.cons, a1.got, a1.all, a1.timer, a1.bodies⟩, ?_, a3⟩
      simp only [List.flatten_nil, List.length_nil]
      show ((0 : Nat) : Int) + _ ≤ _
      have : (recv1 e p).1.owes.peer = (recv1 e p).1.peer ∧ (recv1 e p).1.owes.got = (recv1 e p).1.got := ⟨rfl, rfl⟩
      rw [this.1, this.2]
      omega
    · obtain ⟨b1, b2, b3⟩ := h2 _ a1 h0
      obtain ⟨c1, c2, c3⟩ := h3 _ b1 h0
      refine ⟨c1, ?_, ?_⟩
      · simp only
        rw [c2, b2]
        rw [b3] at c3
        omega
      · simp only
        rw [c2, b2]
        exact a3
end Go.Proofs.Ytnobepobalpccaa
