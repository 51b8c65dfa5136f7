/- Bounds of sides. No walk here. -/
import Derived.Test.YtnobepobalpccaaProtH
namespace Go.Proofs.Ytnobepobalpccaa
set_option linter.unusedVariables false

structure SD.LS (m n : Nat) (s : SD) : Prop where
  e : s.e.LS
  fl : ∀ z ∈ s.fl, Good z.2
  few : s.fl.length ≤ m
  fates : ∀ f ∈ s.fates, f.OK
  sent : 0 ≤ s.sent ∧ s.sent ≤ n
  got : (s.got.length : Int) ≤ 10 * (1000 * s.e.peer + s.e.got)
  resets : 0 ≤ s.resets ∧ s.resets ≤ s.e.peer
theorem fate1_ok : fate1.OK := ⟨by simp [fate1], by simp [fate1], by simp [fate1], by simp [fate1]⟩
theorem fateOf_ok {l : List Fate} (h : ∀ f ∈ l, f.OK) (n : Int) : (fateOf l n).OK := by
  unfold fateOf
  split
  · cases hg : l[n.toNat]? with
    | none => exact fate1_ok
    | some f => exact h f (List.mem_of_getElem? hg)
  · exact fate1_ok
/-- a datagram that an endpoint within its bounds sends -/
def Own (e : EP) (b : List UInt8) : Prop := ∃ p, PGood e p ∧ b = encP p
theorem Own.len {e : EP} {b : List UInt8} (h : Own e b) : b.length ≤ 6060 := by
  obtain ⟨p, hp, rfl⟩ := h
  exact (enc_len hp.right).2
theorem good_dmg {e : EP} {b : List UInt8} {f : Fate} (h : Own e b) (he : e.epoch ≤ 20) (hf : f.OK) : Good (damagedL b f) := by
  have hl := h.len
  obtain ⟨p, hp, rfl⟩ := h
  refine ⟨by rw [dmgL_len]; omega, fun q hq => ?_⟩
  rw [dmg_dec hp.right hf hq]
  exact ⟨by rw [hp.src]; exact he, hp.seq, hp.body⟩
theorem sentL_mem {f : Fate} {b : List UInt8} {now : Int} {k : Nat} {z : Int × List UInt8} (h : z ∈ sentL f b now k) : z.2 = damagedL b f ∧ now + 1 ≤ z.1 ∧ z.1 ≤ now + 100 ∧ ∃ d ∈ f.delays, z.1 = now + clampD d := by
  obtain ⟨d, hd, rfl⟩ := List.mem_map.1 h
  have := clampD_range d
  exact ⟨rfl, by show now + 1 ≤ now + clampD d; omega, by show now + clampD d ≤ _; omega, d, List.mem_of_mem_take hd, rfl⟩
theorem sentL_len (f : Fate) (b : List UInt8) (now : Int) (k : Nat) : (sentL f b now k).length ≤ f.delays.length := by simp [sentL]; omega
theorem SD.LS.sendOne {m n : Nat} {s : SD} (h : s.LS m n) {now : Int} {b : List UInt8} (hb : Own s.e b) : (sendOne now s b).LS (m + 2) (n + 1) := by
  have hf := fateOf_ok h.fates s.sent
  refine ⟨h.e, fun z hz => ?_, ?_, h.fates, ?_, h.got, h.resets⟩
  · rcases List.mem_append.1 hz with hz | hz
    · exact h.fl z hz
    · rw [(sentL_mem hz).1]
      exact good_dmg hb h.e.epoch.2 hf
  · show (s.fl ++ sentL _ b now 8).length ≤ m + 2
    have h1 := sentL_len (fateOf s.fates s.sent) b now 8
    have h2 := hf.few
    have h3 := h.few
    rw [List.length_append]
    omega
  · show 0 ≤ s.sent + 1 ∧ s.sent + 1 ≤ ((n + 1 : Nat) : Int)
    have := h.sent
    omega
theorem sendAll_e (now : Int) (l : List (List UInt8)) : ∀ s : SD, (sendAll now s l).e = s.e := by
  induction l with
  | nil => intro s; rfl
  | cons b l ih => intro s; exact ih (sendOne now s b)
theorem sendAll_got (now : Int) (l : List (List UInt8)) : ∀ s : SD, (sendAll now s l).got = s.got ∧ (sendAll now s l).fates = s.fates ∧ (sendAll now s l).resets = s.resets ∧ (sendAll now s l).sent = s.sent + l.length := by
  induction l with
  | nil => intro s; exact ⟨rfl, rfl, rfl, by simp [sendAll]⟩
  | cons b l ih =>
    intro s
    obtain ⟨h1, h2, h3, h4⟩ := ih (sendOne now s b)
    refine ⟨h1, h2, h3, ?_⟩
    have : sendAll now s (b :: l) = sendAll now (Go.Proofs.Ytnobepobalpccaa.sendOne now s b) l := rfl
    rw [this, h4]
    simp only [Go.Proofs.Ytnobepobalpccaa.sendOne, List.length_cons]
    omega
theorem sendAll_snoc (now : Int) (s : SD) (l : List (List UInt8)) (b : List UInt8) : sendAll now s (l ++ [b]) = sendOne now (sendAll now s l) b := by simp [sendAll]
theorem SD.LS.sendAll {m n : Nat} {now : Int} (l : List (List UInt8)) : ∀ {s : SD} {m n : Nat}, s.LS m n → (∀ b ∈ l, Own s.e b) → (sendAll now s l).LS (m + 2 * l.length) (n + l.length) := by
  induction l with
  | nil => intro s m n h _; exact h
  | cons b l ih =>
    intro s m n h hb
    have h1 := ih (h.sendOne (now := now) (hb b (by simp))) (fun c hc => hb c (by simp [hc]))
    have e1 : m + 2 + 2 * l.length = m + 2 * (b :: l).length := by simp; omega
    have e2 : n + 1 + l.length = n + (b :: l).length := by simp; omega
    rw [e1, e2] at h1
    exact h1
theorem pollF_len5 {e : EP} (now : Int) : (pollF e now).2.length ≤ 5 := by
  show (pollM e now).2.length ≤ 5
  unfold pollM
  split
  · split
    · have := sendF_len [] ⟨1, e.epoch, 0, 0, 0, []⟩
      simp at this ⊢; omega
    · simp
  · generalize hk : min 4 e.queue.length - (e.first now - e.acked).toNat = k
    have h1 := outsL_len e (e.first now) k
    have h2 := sendF_len (outsL e (e.first now) k) ⟨3, e.epoch, e.peer, 0, e.got, []⟩
    simp only
    split <;> omega
theorem pollF_same {e : EP} (now : Int) : (pollF e now).1.epoch = e.epoch ∧ (pollF e now).1.peer = e.peer ∧ (pollF e now).1.acked = e.acked ∧ (pollF e now).1.got = e.got ∧ (pollF e now).1.queue = e.queue := by
  have hq : ∀ (e' : EP) out, (e'.quiet out).epoch = e'.epoch ∧ (e'.quiet out).peer = e'.peer ∧ (e'.quiet out).acked = e'.acked ∧ (e'.quiet out).got = e'.got ∧ (e'.quiet out).queue = e'.queue := fun _ _ => ⟨rfl, rfl, rfl, rfl, rfl⟩
  show ((pollM e now).1.quiet (pollM e now).2).epoch = _ ∧ _
  obtain ⟨h1, h2, h3, h4, h5⟩ := hq (pollM e now).1 (pollM e now).2
  have hm : (pollM e now).1.epoch = e.epoch ∧ (pollM e now).1.peer = e.peer ∧ (pollM e now).1.acked = e.acked ∧ (pollM e now).1.got = e.got ∧ (pollM e now).1.queue = e.queue := by
    unfold pollM
    split
    · split <;> exact ⟨rfl, rfl, rfl, rfl, rfl⟩
    · exact ⟨rfl, rfl, rfl, rfl, rfl⟩
  exact hm
theorem Own.poll {e : EP} {now : Int} (h : e.LS) {b : List UInt8} (hb : b ∈ (pollF e now).2) : Own (pollF e now).1 b := by
  obtain ⟨p, hp, rfl⟩ := pollF_mem h hb
  exact ⟨p, ⟨hp.right, by rw [(pollF_same now).1]; exact hp.src, hp.seq, hp.body⟩, rfl⟩
theorem SD.LS.setE {m n : Nat} {s : SD} (h : s.LS m n) {now : Int} (hn : 0 ≤ now ∧ now ≤ 10000) : (s.setE (pollF s.e now).1).LS m n := by
  obtain ⟨h1, h2, h3, h4, h5⟩ := pollF_same (e := s.e) now
  refine ⟨h.e.poll hn, h.fl, h.few, h.fates, h.sent, ?_, ?_⟩
  · show (s.got.length : Int) ≤ 10 * (1000 * (pollF s.e now).1.peer + (pollF s.e now).1.got)
    rw [h2, h4]; exact h.got
  · show 0 ≤ s.resets ∧ s.resets ≤ (pollF s.e now).1.peer
    rw [h2]; exact h.resets
theorem SD.LS.more {m n m' n' : Nat} {s : SD} (h : s.LS m n) (hm : m ≤ m') (hn : n ≤ n') : s.LS m' n' := ⟨h.e, h.fl, Nat.le_trans h.few hm, h.fates, ⟨h.sent.1, by have := h.sent.2; omega⟩, h.got, h.resets⟩
theorem SD.LS.poll {m n : Nat} {s : SD} (h : s.LS m n) {now : Int} (hn : 0 ≤ now ∧ now ≤ 10000) : (pollS now s).LS (m + 10) (n + 5) := by
  have h1 := SD.LS.sendAll (m := 0) (n := 0) (now := now) (pollF s.e now).2 (h.setE hn) (fun b hb => Own.poll h.e hb)
  have h2 := pollF_len5 (e := s.e) now
  exact h1.more (by omega) (by omega)
theorem SD.LS.recv {m n : Nat} {s s' : SD} (h : s.LS m n) {b : List UInt8} (hb : Good b) (hr : RecvStep s b s') : s'.LS m n := by
  obtain ⟨p, er, hd, rfl⟩ := hr
  obtain ⟨h1, h2, h3⟩ := h.e.recv (p := p) (er := er) (fun h0 => by subst h0; exact hd.right) (fun h0 => by subst h0; exact hb.2 p hd)
  refine ⟨h1, h.fl, h.few, h.fates, h.sent, ?_, ?_⟩
  · show ((s.got ++ (recvF s.e p er).2.1.flatten).length : Int) ≤ _
    have := h.got
    rw [List.length_append]
    simp only
    omega
  · have := h.resets
    show 0 ≤ (if (recvF s.e p er).2.2 = true then s.resets + 1 else s.resets) ∧ (if (recvF s.e p er).2.2 = true then s.resets + 1 else s.resets) ≤ (recvF s.e p er).1.peer
    cases hq : (recvF s.e p er).2.2 <;> simp [hq] at h3 ⊢ <;> omega
theorem SD.LS.recvAll {m n : Nat} {s s' : SD} {l : List (List UInt8)} (h : s.LS m n) (hr : RecvAll s l s') : (∀ b ∈ l, Good b) → s'.LS m n := by
  induction hr with
  | nil => intro _; exact h
  | snoc h1 h2 ih => intro hb; exact (ih fun b hb' => hb b (by simp [hb'])).recv (hb _ (by simp)) h2
theorem SD.LS.due {m n : Nat} {s : SD} (h : s.LS m n) (now : Int) : SD.LS m n ⟨s.e, s.fl.filter (fun z => decide (now < z.1)), s.fates, s.sent, s.got, s.resets⟩ :=
  ⟨h.e, fun z hz => h.fl z (List.mem_filter.1 hz).1, Nat.le_trans (List.length_filter_le _ _) h.few, h.fates, h.sent, h.got, h.resets⟩
theorem due_good {m n : Nat} {s : SD} (h : s.LS m n) {now : Int} {outs : List (List UInt8)} (hp : outs.Perm ((s.fl.filter (fun z => !decide (now < z.1))).map (·.2))) : ∀ b ∈ outs, Good b := fun b hb => by
  obtain ⟨z, hz, rfl⟩ := List.mem_map.1 (hp.mem_iff.1 hb)
  exact h.fl z (List.mem_filter.1 hz).1
theorem SD.LS.arrives {m n m' n' : Nat} {x y x' y' : SD} {now : Int} (hx : x.LS m n) (hy : y.LS m' n') (h : Arrives now x y x' y') : x'.LS m n ∧ y'.LS m' n' := by
  obtain ⟨outs, hp, rfl, hr⟩ := h
  exact ⟨hx.due now, hy.recvAll hr (due_good hx hp)⟩
theorem SD.LS.exch {m n m' n' : Nat} {a b a' b' : SD} {now : Int} (ha : a.LS m n) (hb : b.LS m' n') (hn : 0 ≤ now ∧ now ≤ 10000) (h : Exch now a b a' b') : a'.LS (m + 10) (n + 5) ∧ b'.LS (m' + 10) (n' + 5) := by
  obtain ⟨a2, b2, h1, h2⟩ := h
  obtain ⟨c1, c2⟩ := (ha.poll hn).arrives (hb.poll hn) h1
  obtain ⟨d1, d2⟩ := c2.arrives c1 h2
  exact ⟨d2, d1⟩
end Go.Proofs.Ytnobepobalpccaa
