/- TransportRestarts: the plain law. One end restarts: until the other one knows it, and from then on. -/
import Derived.Test.YtnobepobalpccaaProtZ
namespace Go.Proofs.Ytnobepobalpccaa
open Go.RowKit
set_option linter.unusedVariables false

/-! s is z but that it has delivered more ahead of it, and has seen one restart -/
structure Sh (g0 : List UInt8) (s z : SD) : Prop where
  e : s.e = z.e
  fl : s.fl = z.fl
  fates : s.fates = z.fates
  sent : s.sent = z.sent
  got : s.got = g0 ++ z.got
  resets : s.resets = z.resets + 1
theorem Sh.sendAll {g0 : List UInt8} (now : Int) (l : List (List UInt8)) : ∀ {s z : SD}, Sh g0 s z → Sh g0 (sendAll now s l) (sendAll now z l) := by
  induction l with
  | nil => intro s z h; exact h
  | cons b l ih =>
    intro s z h
    refine ih (s := sendOne now s b) (z := sendOne now z b) ⟨h.e, ?_, h.fates, ?_, h.got, h.resets⟩
    · show s.fl ++ sentL (fateOf s.fates s.sent) b now 8 = z.fl ++ sentL (fateOf z.fates z.sent) b now 8
      rw [h.fl, h.fates, h.sent]
    · show s.sent + 1 = z.sent + 1
      rw [h.sent]
theorem Sh.poll {g0 : List UInt8} {s z : SD} (h : Sh g0 s z) (now : Int) : Sh g0 (pollS now s) (pollS now z) := by
  unfold pollS
  rw [h.e]
  exact Sh.sendAll now _ ⟨rfl, h.fl, h.fates, h.sent, h.got, h.resets⟩
theorem Sh.recv {g0 : List UInt8} {s z s' : SD} {b : List UInt8} (h : Sh g0 s z) (hr : RecvStep s b s') : ∃ z', RecvStep z b z' ∧ Sh g0 s' z' := by
  obtain ⟨p, er, hd, rfl⟩ := hr
  refine ⟨_, ⟨p, er, hd, rfl⟩, ⟨by rw [h.e], h.fl, h.fates, h.sent, ?_, ?_⟩⟩
  · show s.got ++ _ = g0 ++ (z.got ++ _)
    rw [h.got, h.e, List.append_assoc]
  · show (if (recvF s.e p er).2.2 = true then s.resets + 1 else s.resets) = (if (recvF z.e p er).2.2 = true then z.resets + 1 else z.resets) + 1
    rw [h.e, h.resets]
    split <;> rfl
theorem Sh.recvAll {g0 : List UInt8} {s z s' : SD} {l : List (List UInt8)} (h : Sh g0 s z) (hr : RecvAll s l s') : ∃ z', RecvAll z l z' ∧ Sh g0 s' z' := by
  induction hr with
  | nil => exact ⟨z, .nil z, h⟩
  | snoc h1 h2 ih =>
    obtain ⟨z1, k1, k2⟩ := ih
    obtain ⟨z2, k3, k4⟩ := k2.recv h2
    exact ⟨z2, .snoc k1 k3, k4⟩
theorem Sh.from_ {g0 : List UInt8} {x y x' y' z : SD} {now : Int} (h : Sh g0 x z) (hr : Arrives now x y x' y') : ∃ z', Arrives now z y z' y' ∧ Sh g0 x' z' := by
  obtain ⟨o, p, rfl, r⟩ := hr
  exact ⟨_, ⟨o, by rw [← h.fl]; exact p, rfl, r⟩, ⟨h.e, by rw [h.fl], h.fates, h.sent, h.got, h.resets⟩⟩
theorem Sh.to_ {g0 : List UInt8} {x y x' y' z : SD} {now : Int} (h : Sh g0 y z) (hr : Arrives now x y x' y') : ∃ z', Arrives now x z x' z' ∧ Sh g0 y' z' := by
  obtain ⟨o, p, rfl, r⟩ := hr
  obtain ⟨z', k1, k2⟩ := h.recvAll r
  exact ⟨z', ⟨o, p, rfl, k1⟩, k2⟩
theorem Sh.exch {g0 : List UInt8} {a b a' b' z : SD} {now : Int} (h : Sh g0 b z) (hx : Exch now a b a' b') : ∃ z', Exch now a z a' z' ∧ Sh g0 b' z' := by
  obtain ⟨a2, b2, h1, h2⟩ := hx
  obtain ⟨z2, k1, k2⟩ := (h.poll now).to_ h1
  obtain ⟨z3, k3, k4⟩ := k2.from_ h2
  exact ⟨z3, ⟨a2, z2, k1, k3⟩, k4⟩
theorem Sh.ls {g0 : List UInt8} {s z : SD} {m n : Nat} (h : Sh g0 s z) (hl : s.LS m n) (hz : z.resets = 0) : z.LS m n := by
  have hg := hl.got
  have hp := hl.e.peer
  rw [h.got, List.length_append] at hg
  refine ⟨by rw [← h.e]; exact hl.e, by rw [← h.fl]; exact hl.fl, by rw [← h.fl]; exact hl.few, by rw [← h.fates]; exact hl.fates, by rw [← h.sent]; exact hl.sent, ?_, ?_⟩
  · rw [← h.e]; omega
  · rw [← h.e, hz]; omega
theorem Sh.fit {g0 : List UInt8} {a s z : SD} {now : Int} (h : Sh g0 s z) (hf : Fit now a s) : Fit now a z :=
  ⟨hf.ta, ⟨by rw [← h.e]; exact hf.tb.win, by rw [← h.e]; exact hf.tb.timer, by rw [← h.fl]; exact hf.tb.lo, by rw [← h.fl]; exact hf.tb.hi⟩, hf.ra, ⟨by rw [← h.fates]; exact hf.rb.fates, by rw [← h.sent]; exact hf.rb.sent⟩⟩
/-! to whom what is sent is addressed -/
def Dst (ep : Int) (b : List UInt8) : Prop := ∀ p, DecIs b p 0 → p.dst = 0 ∨ p.dst = ep
theorem pollF_kinds {e : EP} {now : Int} {b : List UInt8} (hb : b ∈ (pollF e now).2) : ∃ p, rightP p ∧ b = encP p ∧ (p.dst = 0 ∨ p.dst = e.peer) ∧ (p.kind = 2 → e.queue ≠ []) := by
  have hb' : b ∈ (pollM e now).2 := hb
  unfold pollM at hb'
  split at hb'
  · split at hb'
    · rcases sendF_mem hb' with hb' | ⟨h1, h2⟩
      · simp at hb'
      · exact ⟨_, h1, h2, .inl rfl, fun h => by simp at h⟩
    · simp at hb'
  · have hout : ∀ b ∈ outsL e (e.first now) (min 4 e.queue.length - (e.first now - e.acked).toNat), ∃ p, rightP p ∧ b = encP p ∧ (p.dst = 0 ∨ p.dst = e.peer) ∧ (p.kind = 2 → e.queue ≠ []) := by
      intro b hb
      obtain ⟨j, hj, hr, rfl⟩ := outsL_mem hb
      exact ⟨_, hr, rfl, .inr rfl, fun _ h => by rw [h] at hj; simp at hj⟩
    simp only at hb'
    split at hb'
    · rcases sendF_mem hb' with hb' | ⟨h1, h2⟩
      · exact hout b hb'
      · exact ⟨_, h1, h2, .inr rfl, fun h => by simp at h⟩
    · exact hout b hb'
theorem Dst.step {P Q : List (List UInt8)} {x y y' : SD} {now : Int} (two : Two P Q x y) (fy : ∀ f ∈ y.fates, f.OK) (hl : Left now y y') (h : ∀ z ∈ y.fl, Dst x.e.epoch z.2) : ∀ z ∈ y'.fl, Dst x.e.epoch z.2 := fun z hz => by
  rw [hl.fl] at hz
  rcases sendAll_new now _ (y.setE (pollF y.e now).1) fy z (List.mem_filter.1 hz).1 with hz | ⟨⟨b, hb, f, hf, e⟩, _⟩
  · exact h z hz
  · obtain ⟨p, hr, rfl, h1, _⟩ := pollF_kinds hb
    intro q hd
    rw [e] at hd
    rw [dmg_dec hr hf hd]
    rcases h1 with h1 | h1
    · exact .inl h1
    · rcases two.fw.peer with h2 | h2
      · exact .inl (h1.trans h2)
      · exact .inr (h1.trans h2)
/-! ahead of the first datagram of the new incarnation -/
def OldNew (P R : List (List UInt8)) (b : List UInt8) : Prop := ∀ p, DecIs b p 0 → (p.dst = 1 → p.ack ≤ 0) ∧ ((p.src = 1 ∧ (p.kind = 2 → 1 ≤ p.seq ∧ P[(p.seq - 1).toNat]? = some p.body)) ∨ (p.src = 2 ∧ (p.kind = 2 → 1 ≤ p.seq ∧ R[(p.seq - 1).toNat]? = some p.body)))
def OldB (b : List UInt8) : Prop := ∀ p, DecIs b p 0 → p.src = 1 ∧ p.kind ≠ 2 ∧ p.dst ≠ 2
structure PreA (R : List (List UInt8)) (a : SD) : Prop where
  epoch : a.e.epoch = 2
  peer : a.e.peer = 0 ∨ a.e.peer = 1
  acked : a.e.acked = 0
  queue : a.e.queue = R
  new : a.e.peer = 0 → a.e.sent = 0
  egot : a.e.got = 0
  got : a.got = []
  resets : a.resets = 0
structure PreB (P : List (List UInt8)) (b : SD) : Prop where
  epoch : b.e.epoch = 1
  peer : b.e.peer = 1
  acked : b.e.acked = 0
  queue : b.e.queue = []
  low : 0 ≤ b.e.got
  high : b.e.got ≤ P.length
  got : b.got = (P.take b.e.got.toNat).flatten
  resets : b.resets = 0
structure Pre (P R : List (List UInt8)) (a b : SD) : Prop where
  wa : PreA R a
  wb : PreB P b
  fa : ∀ z ∈ a.fl, OldNew P R z.2
  fb : ∀ z ∈ b.fl, OldB z.2
theorem Pre.start {P R : List (List UInt8)} {a b : SD} (two : Two P [] a b) (ha : a.e.epoch = 1) (hb : b.e.epoch = 1) (hp : b.e.peer ≠ 0) (hd : ∀ z ∈ b.fl, Dst 1 z.2) :
    Pre P R (a.setE ⟨2, 0, 0, 0, 0, 0, R, false⟩) b := by
  have hpb : b.e.peer = 1 := by rcases two.fw.peer with h | h; exact absurd h hp; exact h.trans ha
  have h1 := two.fro.gotn
  have h2 := two.fro.ack0
  have h3 := two.fro.low
  have h0 : b.e.acked = 0 := by simp at h1; omega
  have h4 := two.fw.ack0
  have h5 := two.fw.low
  refine ⟨⟨rfl, .inl rfl, rfl, rfl, fun _ => rfl, rfl, ?_, two.fro.resets⟩, ⟨hb, hpb, h0, by rw [two.fro.queue]; simp, by omega, two.fw.gotn, two.fw.got, two.fw.resets⟩, fun z hz p hdec => ?_, fun z hz p hdec => ?_⟩
  · show a.got = []
    rw [two.fro.got]; simp
  · have hz' : z ∈ a.fl := hz
    refine ⟨fun hds => ?_, ?_⟩
    · have := two.fro.bk z hz' p hdec (by rw [hb]; exact hds)
      simp at h1
      omega
    · rcases two.fw.fl z hz' p hdec with ⟨q1, _⟩ | ⟨q1, q2⟩
      · have := hdec.src0
        omega
      · exact .inl ⟨by rw [q1]; exact ha, q2⟩
  · have h6 := two.fro.fl z hz p hdec
    refine ⟨?_, fun hk => ?_, ?_⟩
    · rcases h6 with ⟨q1, _⟩ | ⟨q1, _⟩
      · have := hdec.src0
        omega
      · omega
    · rcases h6 with ⟨q1, _⟩ | ⟨_, q2⟩
      · have := hdec.src0
        omega
      · have := (q2 hk).2
        simp at this
    · rcases hd z hz p hdec with h | h <;> omega
theorem Pre.less {P R : List (List UInt8)} {a b : SD} (h : Pre P R a b) {fl : List (Int × List UInt8)} (hf : ∀ z ∈ fl, z ∈ a.fl) : Pre P R ⟨a.e, fl, a.fates, a.sent, a.got, a.resets⟩ b :=
  ⟨⟨h.wa.epoch, h.wa.peer, h.wa.acked, h.wa.queue, h.wa.new, h.wa.egot, h.wa.got, h.wa.resets⟩, h.wb, fun z hz => h.fa z (hf z hz), h.fb⟩
theorem Pre.lessB {P R : List (List UInt8)} {a b : SD} (h : Pre P R a b) {fl : List (Int × List UInt8)} (hf : ∀ z ∈ fl, z ∈ b.fl) : Pre P R a ⟨b.e, fl, b.fates, b.sent, b.got, b.resets⟩ :=
  ⟨h.wa, ⟨h.wb.epoch, h.wb.peer, h.wb.acked, h.wb.queue, h.wb.low, h.wb.high, h.wb.got, h.wb.resets⟩, h.fa, fun z hz => h.fb z (hf z hz)⟩
theorem Pre.pollA {P R : List (List UInt8)} {a b : SD} (h : Pre P R a b) (hc : a.e.Cons) (hf : ∀ f ∈ a.fates, f.OK) (now : Int) : Pre P R (pollS now a) b := by
  obtain ⟨h1, h2, h3, h4, h5⟩ := pollF_same (e := a.e) now
  have he := pollS_e now a
  obtain ⟨g1, _, g3, _⟩ := sendAll_got now (pollF a.e now).2 (a.setE (pollF a.e now).1)
  have ha := h.wa
  refine ⟨⟨by rw [he, h1]; exact ha.epoch, by rw [he, h2]; exact ha.peer, by rw [he, h3]; exact ha.acked, by rw [he, h5]; exact ha.queue, fun hp => ?_, by rw [he, h4]; exact ha.egot, g1.trans ha.got, g3.trans ha.resets⟩, h.wb, ?_, h.fb⟩
  · rw [he, h2] at hp
    rw [he, pollF_new now hp]
    exact ha.new hp
  · refine sendAll_fl (φ := OldNew P R) now _ (a.setE _) hf h.fa ?_
    intro b hb f hfo q hq
    obtain ⟨p, hr, rfl, e1, e2, e3⟩ := pollF_data hc hb
    rw [dmg_dec hr hfo hq]
    refine ⟨fun _ => ?_, .inr ⟨e1.trans ha.epoch, fun hk => ?_⟩⟩
    · have := ha.egot
      rcases e2 with e | e <;> omega
    · obtain ⟨k1, k2⟩ := e3 hk
      rw [ha.acked, ha.queue] at k2
      rw [ha.acked] at k1
      refine ⟨by omega, ?_⟩
      rw [← k2]
      congr 1
      omega
theorem Pre.pollB {P R : List (List UInt8)} {a b : SD} (h : Pre P R a b) (hc : b.e.Cons) (hf : ∀ f ∈ b.fates, f.OK) (now : Int) : Pre P R a (pollS now b) := by
  obtain ⟨h1, h2, h3, h4, h5⟩ := pollF_same (e := b.e) now
  have he := pollS_e now b
  obtain ⟨g1, _, g3, _⟩ := sendAll_got now (pollF b.e now).2 (b.setE (pollF b.e now).1)
  have hb := h.wb
  refine ⟨h.wa, ⟨by rw [he, h1]; exact hb.epoch, by rw [he, h2]; exact hb.peer, by rw [he, h3]; exact hb.acked, by rw [he, h5]; exact hb.queue, by rw [he, h4]; exact hb.low, by rw [he, h4]; exact hb.high, by rw [pollS_got, he, h4]; exact hb.got, g3.trans hb.resets⟩, h.fa, ?_⟩
  refine sendAll_fl (φ := OldB) now _ (b.setE _) hf h.fb ?_
  intro c hc' f hfo q hq
  obtain ⟨p, hr, rfl, e1, e2, e3⟩ := pollF_data hc hc'
  obtain ⟨p2, hr2, e4, e5, e6⟩ := pollF_kinds hc'
  obtain ⟨rfl, _⟩ := (enc_dec hr).one (e4 ▸ enc_dec hr2)
  rw [dmg_dec hr hfo hq]
  refine ⟨e1.trans hb.epoch, fun hk => e6 hk hb.queue, ?_⟩
  have := hb.peer
  rcases e5 with e | e <;> omega
/-- the first end receives -/
theorem Pre.recvA {P R : List (List UInt8)} {a b a' : SD} (h : Pre P R a b) {c : List UInt8} (hc : OldB c) (hr : RecvStep a c a') : Pre P R a' b ∧ ((a.e.peer = 0 → a'.e.peer = 0) → a'.e.sent = a.e.sent ∧ a'.e.timer = a.e.timer) ∧ (a.e.peer ≠ 0 → a'.e.peer ≠ 0) := by
  obtain ⟨p, er, hd, rfl⟩ := hr
  have ha := h.wa
  unfold recvF
  split
  · exact ⟨⟨⟨ha.epoch, ha.peer, ha.acked, ha.queue, ha.new, ha.egot, by simpa using ha.got, ha.resets⟩, h.wb, h.fa, h.fb⟩, fun _ => ⟨rfl, rfl⟩, fun h => h⟩
  · rename_i hne
    obtain rfl : er = 0 := Classical.byContradiction fun h => hne (.inl h)
    obtain ⟨k1, k2, k3⟩ := hc p hd
    rw [if_pos (by rw [ha.epoch]; exact k3)]
    unfold recv1
    split
    · rename_i hlt
      have hp0 : a.e.peer = 0 := by rcases ha.peer with e | e <;> omega
      rw [if_pos hp0]
      refine ⟨⟨⟨ha.epoch, .inr k1, rfl, ha.queue, fun hp => ?_, rfl, by simpa using ha.got, by simpa [hp0] using ha.resets⟩, h.wb, h.fa, h.fb⟩, fun hk => ?_, fun h => absurd hp0 h⟩
      · have hp' : p.src = 0 := hp
        omega
      · have hp' : p.src = 0 := hk hp0
        omega
    · exact ⟨⟨⟨ha.epoch, ha.peer, ha.acked, ha.queue, ha.new, ha.egot, by simpa using ha.got, by simpa using ha.resets⟩, h.wb, h.fa, h.fb⟩, fun _ => ⟨rfl, rfl⟩, fun h => h⟩
theorem Pre.recvAllA {P R : List (List UInt8)} {a b a' : SD} {l : List (List UInt8)} (h : Pre P R a b) (hr : RecvAll a l a') : (∀ c ∈ l, OldB c) → Pre P R a' b ∧ ((a.e.peer = 0 → a'.e.peer = 0) → a'.e.sent = a.e.sent ∧ a'.e.timer = a.e.timer) ∧ (a.e.peer ≠ 0 → a'.e.peer ≠ 0) := by
  induction hr with
  | nil => intro _; exact ⟨h, fun _ => ⟨rfl, rfl⟩, fun h => h⟩
  | @snoc s1 s2 l b h1 h2 ih =>
    intro hb
    obtain ⟨i1, i2, i3⟩ := ih fun c hc => hb c (by simp [hc])
    obtain ⟨j1, j2, j3⟩ := i1.recvA (hb b (by simp)) h2
    refine ⟨j1, fun hk => ?_, fun h => j3 (i3 h)⟩
    have e0 : a.e.peer = 0 → s1.e.peer = 0 := fun h0 => Classical.byContradiction fun hn => j3 hn (hk h0)
    obtain ⟨a1, a2⟩ := i2 e0
    obtain ⟨b1, b2⟩ := j2 fun h0 => by
      by_cases hy : a.e.peer = 0
      · exact hk hy
      · exact absurd h0 (i3 hy)
    exact ⟨b1.trans a1, b2.trans a2⟩
/-! from the first datagram of the new incarnation on -/
structure Post (P R : List (List UInt8)) (a b z : SD) : Prop where
  sh : ∃ n, n ≤ P.length ∧ Sh (P.take n).flatten b z
  two : Two R [] a z
  epoch : a.e.epoch = 2 ∧ z.e.epoch = 1
  peer : z.e.peer = 2
theorem Two.flights {P Q : List (List UInt8)} {x y : SD} {fl : List (Int × List UInt8)} (h : Two P Q ⟨x.e, fl, x.fates, x.sent, x.got, x.resets⟩ y) (hf : ∀ z ∈ x.fl, DataOK P x.e.epoch y.e.peer z.2) (hb : ∀ z ∈ x.fl, AckOK y.e.epoch x.e.got z.2) : Two P Q x y :=
  ⟨⟨h.fw.ep, h.fw.ack0, h.fw.queue, h.fw.gotn, h.fw.got, h.fw.low, h.fw.peer, h.fw.newy, h.fw.newx, hf, h.fw.bk, h.fw.resets⟩, ⟨h.fro.ep, h.fro.ack0, h.fro.queue, h.fro.gotn, h.fro.got, h.fro.low, h.fro.peer, h.fro.newy, h.fro.newx, h.fro.fl, hb, h.fro.resets⟩⟩
/-- the second end receives -/
theorem Pre.recvB {P R : List (List UInt8)} {a b b' : SD} (h : Pre P R a b) {c : List UInt8} (hc : OldNew P R c) (hr : RecvStep b c b') : (Pre P R a b' ∧ ∀ p, DecIs c p 0 → p.src ≠ 2) ∨ ∃ z, Post P R a b' z := by
  obtain ⟨p, er, hd, rfl⟩ := hr
  have hb := h.wb
  have hpb := hb.peer
  by_cases hne : er ≠ 0 ∨ p.src < b.e.peer
  · refine .inl ?_
    unfold recvF
    rw [if_pos hne]
    refine ⟨⟨h.wa, ⟨hb.epoch, hb.peer, hb.acked, hb.queue, hb.low, hb.high, by simpa using hb.got, hb.resets⟩, h.fa, h.fb⟩, fun q hq e => ?_⟩
    obtain ⟨rfl, rfl⟩ := hd.one hq
    rcases hne with h | h
    · exact h rfl
    · omega
  · obtain rfl : er = 0 := Classical.byContradiction fun h => hne (.inl h)
    obtain ⟨hak, ⟨k1, k2⟩ | ⟨k1, k2⟩⟩ := hc p hd
    · refine .inl ⟨?_, fun q hq e => by obtain ⟨rfl, _⟩ := hd.one hq; omega⟩
      have h1 : recv1 b.e p = (b.e, false) := by unfold recv1; rw [if_neg (by omega)]
      have h2 : recv2 b.e p = b.e := by
        unfold recv2
        rw [if_neg]
        rw [hb.queue, hb.acked]
        simp
      unfold recvF
      rw [if_neg hne, h1]
      simp only [h2]
      split
      · exact ⟨h.wa, ⟨hb.epoch, hb.peer, hb.acked, hb.queue, hb.low, hb.high, by simpa [EP.owes] using hb.got, hb.resets⟩, h.fa, h.fb⟩
      · have hlow := hb.low
        have hhigh := hb.high
        have hgot := hb.got
        unfold recv3
        split
        · rename_i hk2
          obtain ⟨q1, q2⟩ := k2 hk2
          split
          · rename_i hsq
            obtain ⟨hlt, hbd⟩ := List.getElem?_eq_some_iff.1 q2
            have hnn : (p.seq - 1).toNat = b.e.got.toNat := by omega
            have hng : (b.e.got + 1).toNat = b.e.got.toNat + 1 := by omega
            refine ⟨h.wa, ⟨hb.epoch, hb.peer, hb.acked, hb.queue, by show 0 ≤ b.e.got + 1; omega, by show b.e.got + 1 ≤ _; omega, ?_, hb.resets⟩, h.fa, h.fb⟩
            show b.got ++ [p.body].flatten = (P.take (b.e.got + 1).toNat).flatten
            rw [hng, ← hnn, List.take_succ_eq_append_getElem hlt, List.flatten_append, hbd, hnn, ← hgot]
          · exact ⟨h.wa, ⟨hb.epoch, hb.peer, hb.acked, hb.queue, hb.low, hb.high, by simpa [EP.owes] using hb.got, hb.resets⟩, h.fa, h.fb⟩
        · split
          · exact ⟨h.wa, ⟨hb.epoch, hb.peer, hb.acked, hb.queue, hb.low, hb.high, by simpa [EP.owes] using hb.got, hb.resets⟩, h.fa, h.fb⟩
          · exact ⟨h.wa, ⟨hb.epoch, hb.peer, hb.acked, hb.queue, hb.low, hb.high, by simpa using hb.got, hb.resets⟩, h.fa, h.fb⟩
    · right
      have ha := h.wa
      have hx1 : ∃ e1, recv1 b.e p = (e1, true) ∧ recv1 ⟨1, 0, 0, 0, 0, 0, [], b.e.owe⟩ p = (e1, false) := by
        refine ⟨⟨1, p.src, 0, 0, 0, 0, [], b.e.owe⟩, ?_, ?_⟩
        · unfold recv1
          rw [if_pos (by omega), if_neg (by omega), hb.epoch]
          simp [hpb]
        · unfold recv1
          rw [if_pos (by show (0 : Int) < p.src; omega)]
          simp
      obtain ⟨e1, r1, r2⟩ := hx1
      have hF : (recvF b.e p 0).1 = (recvF ⟨1, 0, 0, 0, 0, 0, [], b.e.owe⟩ p 0).1 ∧ (recvF b.e p 0).2.1 = (recvF ⟨1, 0, 0, 0, 0, 0, [], b.e.owe⟩ p 0).2.1 ∧ (recvF b.e p 0).2.2 = true ∧ (recvF ⟨1, 0, 0, 0, 0, 0, [], b.e.owe⟩ p 0).2.2 = false := by
        have hA : recvF b.e p 0 = if p.dst ≠ 1 then (e1.owes, [], true) else ((recv3 (recv2 e1 p) p).1, (recv3 (recv2 e1 p) p).2, true) := by
          unfold recvF
          rw [if_neg hne, r1, hb.epoch]
        have hB : recvF ⟨1, 0, 0, 0, 0, 0, [], b.e.owe⟩ p 0 = if p.dst ≠ 1 then (e1.owes, [], false) else ((recv3 (recv2 e1 p) p).1, (recv3 (recv2 e1 p) p).2, false) := by
          unfold recvF
          rw [if_neg (by rintro (h | h); exact h rfl; have h' : p.src < 0 := h; omega), r2]
        rw [hA, hB]
        split <;> exact ⟨rfl, rfl, rfl, rfl⟩
      have t0 : Two R [] ⟨a.e, [], a.fates, a.sent, a.got, a.resets⟩ ⟨⟨1, 0, 0, 0, 0, 0, [], b.e.owe⟩, b.fl, b.fates, b.sent, [], 0⟩ := by
        refine ⟨⟨by show 1 ≤ a.e.epoch; rw [ha.epoch]; omega, by show 0 ≤ a.e.acked; rw [ha.acked]; omega, by show a.e.queue = R.drop a.e.acked.toNat; rw [ha.queue, ha.acked]; rfl, by show (0 : Int) ≤ _; omega, by simp, by show a.e.acked ≤ 0; rw [ha.acked]; omega, .inl rfl, fun _ => rfl, fun hp => ⟨ha.acked, ha.new hp⟩, by simp, fun z hz q hq hds => ?_, rfl⟩,
          ⟨by show (1 : Int) ≤ 1; omega, by show (0 : Int) ≤ 0; omega, by simp, by show a.e.got ≤ _; rw [ha.egot]; simp, by show a.got = _; rw [ha.got]; simp, by show (0 : Int) ≤ a.e.got; rw [ha.egot]; omega, ha.peer, fun _ => ha.egot, fun _ => ⟨rfl, rfl⟩, fun z hz q hq => ?_, by simp, ha.resets⟩⟩
        · obtain ⟨_, _, j3⟩ := h.fb z hz q hq
          exact absurd (hds.trans ha.epoch) j3
        · obtain ⟨j1, j2, _⟩ := h.fb z hz q hq
          exact .inr ⟨j1, fun hk => absurd hk j2⟩
      obtain ⟨t1, t2, _⟩ := t0.recv (c := c) (fun q hq => by
          obtain ⟨rfl, _⟩ := hd.one hq
          exact .inr ⟨k1.trans ha.epoch.symm, k2⟩) (fun q hq hds => by
          obtain ⟨rfl, _⟩ := hd.one hq
          show p.ack ≤ a.e.got
          rw [ha.egot]
          exact hak hds) ⟨p, 0, hd, rfl⟩
      have hpz : (recvF ⟨1, 0, 0, 0, 0, 0, [], b.e.owe⟩ p 0).1.peer = 2 := by
        have t3 : (recvF ⟨1, 0, 0, 0, 0, 0, [], b.e.owe⟩ p 0).1.peer = 0 ∨ (recvF ⟨1, 0, 0, 0, 0, 0, [], b.e.owe⟩ p 0).1.peer = a.e.epoch := t1.fw.peer
        have t4 : (recvF b.e p 0).1.peer ≠ 0 := by
          unfold recvF
          rw [if_neg hne, r1]
          have e1p : e1.peer = p.src := by
            have := r2
            unfold recv1 at this
            rw [if_pos (by show (0 : Int) < p.src; omega)] at this
            rw [← (Prod.mk.inj this).1]
          split
          · show e1.peer ≠ 0; omega
          · obtain ⟨c1, _⟩ := recv3_same (recv2 e1 p) p
            obtain ⟨b1, _⟩ := recv2_mono e1 p
            show (recv3 (recv2 e1 p) p).1.peer ≠ 0
            rw [c1, b1]
            omega
        rw [← hF.1]
        rw [← hF.1] at t3
        rcases t3 with e | e
        · exact absurd e t4
        · rw [e]; exact ha.epoch
      have t5 := Two.flights (x := a) t1 (fun z hz q hq => ?_) (fun z hz q hq hds => ?_)
      · refine ⟨_, ⟨⟨b.e.got.toNat, by have := hb.low; have := hb.high; omega, ?_⟩, t5, ⟨ha.epoch, t2⟩, hpz⟩⟩
        refine ⟨hF.1, rfl, rfl, rfl, ?_, ?_⟩
        · show b.got ++ _ = _ ++ ([] ++ _)
          rw [hb.got, hF.2.1]; rfl
        · show (if (recvF b.e p 0).2.2 = true then b.resets + 1 else b.resets) = (if (recvF _ p 0).2.2 = true then (0 : Int) + 1 else 0) + 1
          rw [hF.2.2.1, hF.2.2.2, hb.resets]; rfl
      · obtain ⟨_, ⟨j1, j2⟩ | ⟨j1, j2⟩⟩ := h.fa z hz q hq
        · exact .inl ⟨by rw [ha.epoch]; omega, by show (recvF _ p 0).1.peer = _; rw [hpz]; exact ha.epoch.symm⟩
        · exact .inr ⟨j1.trans ha.epoch.symm, j2⟩
      · rw [ha.egot]
        exact (h.fa z hz q hq).1 (hds.trans t2)

theorem Post.oldnew {P R : List (List UInt8)} {a b z : SD} (h : Post P R a b z) {c : List UInt8} (hc : OldNew P R c) : DataOK R a.e.epoch z.e.peer c ∧ AckOK z.e.epoch a.e.got c := by
  refine ⟨fun q hq => ?_, fun q hq hds => ?_⟩
  · obtain ⟨_, ⟨j1, j2⟩ | ⟨j1, j2⟩⟩ := hc q hq
    · exact .inl ⟨by rw [h.epoch.1]; omega, by rw [h.peer]; exact h.epoch.1.symm⟩
    · exact .inr ⟨j1.trans h.epoch.1.symm, j2⟩
  · have h1 := (hc q hq).1 (hds.trans h.epoch.2)
    have h2 := h.two.fro.ack0
    have h3 := h.two.fro.low
    omega
/-- the second end receives all that is due -/
theorem Pre.recvAllB {P R : List (List UInt8)} {a b b' : SD} {l : List (List UInt8)} (h : Pre P R a b) (hr : RecvAll b l b') : (∀ c ∈ l, OldNew P R c) → (Pre P R a b' ∧ ∀ c ∈ l, ∀ p, DecIs c p 0 → p.src ≠ 2) ∨ ∃ z, Post P R a b' z := by
  induction hr with
  | nil => intro _; exact .inl ⟨h, by simp⟩
  | @snoc s1 s2 l b h1 h2 ih =>
    intro hb
    rcases ih fun c hc => hb c (by simp [hc]) with ⟨i1, i2⟩ | ⟨z, hz⟩
    · rcases i1.recvB (hb b (by simp)) h2 with ⟨j1, j2⟩ | ⟨z, hz⟩
      · refine .inl ⟨j1, fun c hc => ?_⟩
        rcases List.mem_append.1 hc with hc | hc
        · exact i2 c hc
        · obtain rfl : c = b := by simpa using hc
          exact j2
      · exact .inr ⟨z, hz⟩
    · right
      obtain ⟨⟨n, hn, hs⟩, t, ⟨e1, e2⟩, hp⟩ := hz
      obtain ⟨z', k1, k2⟩ := hs.recv h2
      have ho := Post.oldnew ⟨⟨n, hn, hs⟩, t, ⟨e1, e2⟩, hp⟩ (hb b (by simp))
      obtain ⟨t1, t2, t3⟩ := t.recv ho.1 ho.2 k1
      exact ⟨z', ⟨⟨n, hn, k2⟩, t1, ⟨e1, t2.trans e2⟩, (t3 (by omega)).trans hp⟩⟩
theorem Post.less {P R : List (List UInt8)} {a b z : SD} (h : Post P R a b z) {fl : List (Int × List UInt8)} (hf : ∀ y ∈ fl, y ∈ a.fl) : Post P R ⟨a.e, fl, a.fates, a.sent, a.got, a.resets⟩ b z :=
  ⟨h.sh, h.two.less hf, h.epoch, h.peer⟩
/-- an exchange behind the first new datagram -/
theorem Post.exch {P R : List (List UInt8)} {a b z a' b' : SD} {now : Int} {m n : Nat} (h : Post P R a b z) (la : a.LS m n) (lb : b.LS m n) (hx : Exch now a b a' b') : ∃ z', Post P R a' b' z' ∧ Exch now a z a' z' ∧ z.LS m n := by
  obtain ⟨⟨k, hk, hs⟩, t, ⟨e1, e2⟩, hp⟩ := h
  obtain ⟨z', x1, x2⟩ := hs.exch hx
  have lz := hs.ls lb t.fw.resets
  obtain ⟨h1, h2⟩ := t.half la lz x1
  exact ⟨z', ⟨⟨k, hk, x2⟩, t.exch la lz x1, ⟨h2.epoch.trans e1, h1.epoch.trans e2⟩, (h1.peer (by omega)).trans hp⟩, x1, lz⟩
/-- an exchange ahead of it, or around it -/
structure PreEx (P R : List (List UInt8)) (now : Int) (a a' b' : SD) : Prop where
  pre : Pre P R a' b'
  peer : a.e.peer ≠ 0 → a'.e.peer ≠ 0
  still : (a.e.peer = 0 → a'.e.peer = 0) → a'.e.sent = (pollF a.e now).1.sent ∧ a'.e.timer = (pollF a.e now).1.timer
  none : ∀ p d, rightP p → (d, encP p) ∈ (pollS now a).fl → d ≤ now → p.src ≠ 2
theorem Pre.exch {P R : List (List UInt8)} {a b a' b' : SD} {now : Int} {m n : Nat} (h : Pre P R a b) (la : a.LS m n) (lb : b.LS m n) (hx : Exch now a b a' b') : PreEx P R now a a' b' ∨ ∃ z', Post P R a' b' z' := by
  obtain ⟨a2, b2, ⟨oa, pa, rfl, ra⟩, hx2⟩ := hx
  have k1 := h.pollA la.e.cons la.fates now
  have k2 := k1.pollB lb.e.cons lb.fates now
  have oka := due_mem (φ := OldNew P R) k2.fa pa
  have k3 := k2.less (fl := (pollS now a).fl.filter (fun z => decide (now < z.1))) fun z hz => (List.mem_filter.1 hz).1
  rcases k3.recvAllB ra oka with ⟨k4, hno⟩ | ⟨z, hz⟩
  · left
    obtain ⟨ob, pb, rfl, rb⟩ := hx2
    have okb := due_mem (φ := OldB) k4.fb pb
    have k5 := k4.lessB (fl := b2.fl.filter (fun z => decide (now < z.1))) fun z hz => (List.mem_filter.1 hz).1
    obtain ⟨j1, j2, j3⟩ := k5.recvAllA rb okb
    have ea : (pollS now a).e = (pollF a.e now).1 := pollS_e now a
    have ep := (pollF_same (e := a.e) now).2.1
    refine ⟨j1, fun hp => j3 ?_, fun hk => ?_, fun p d hr hm hd => hno _ (due_in pa hm hd) p (enc_dec hr)⟩
    · show (pollS now a).e.peer ≠ 0
      rw [ea, ep]; exact hp
    · have := j2 (fun h0 => hk ?_)
      · rw [← ea]; exact this
      · have h0' : (pollS now a).e.peer = 0 := h0
        rw [ea, ep] at h0'; exact h0'
  · right
    obtain ⟨⟨k, hk, hs⟩, t, ⟨e1, e2⟩, hp⟩ := hz
    obtain ⟨z', x1, x2⟩ := hs.from_ hx2
    have t1 := t.symm.arrives x1
    obtain ⟨ob, pb, rfl, rb⟩ := x1
    exact ⟨_, ⟨k, hk, x2⟩, t1.symm, ⟨rb.epoch.trans e1, e2⟩, hp⟩
/-! progress until then -/
def G1 (a : SD) : Int := min a.sent 60 + knows a.e
def Ph1 (now : Int) (a : SD) (c : Int) : Prop :=
  (c = 10) ∨ (2 ≤ c ∧ c ≤ 9 ∧ a.e.full ∧ a.e.timer ≤ now + (c - 2)) ∨ (c = 1 ∧ ∃ p d, rightP p ∧ (d, encP p) ∈ a.fl ∧ d ≤ now ∧ p.src = 2)
theorem Ph1.range {now : Int} {a : SD} {c : Int} (h : Ph1 now a c) : 1 ≤ c ∧ c ≤ 10 := by
  rcases h with h | ⟨h1, h2, _⟩ | ⟨h, _⟩ <;> omega
theorem knows_mono {e e' : EP} (h : e.peer ≠ 0 → e'.peer ≠ 0) : knows e ≤ knows e' ∧ (knows e' ≤ knows e → e.peer = 0 → e'.peer = 0) := by
  unfold knows
  by_cases h0 : e.peer = 0
  · rw [if_pos h0]
    split
    · exact ⟨by omega, fun _ _ => by assumption⟩
    · exact ⟨by omega, fun h _ => by omega⟩
  · rw [if_neg h0, if_neg (h h0)]
    exact ⟨by omega, fun _ h => absurd h h0⟩
theorem Ph1.step {P R : List (List UInt8)} {a a' b b' : SD} {now c : Int} (hpre : Pre P R a b) (hR : R ≠ []) (ea : a.e.LS) (ta : Tk now a) (ra : Room a) (hx : PreEx P R now a a' b') (hl : Left now a a') (hp : Ph1 now a c) : G1 a < G1 a' ∨ ∃ c', 1 ≤ c' ∧ c' < c ∧ Ph1 (now + 1) a' c' := by
  obtain ⟨k1, k2⟩ := knows_mono hx.peer
  have s1 := hl.sent.trans (pollS_sent now a)
  have h0 := ra.sent
  by_cases hg : G1 a < G1 a'
  · exact .inl hg
  right
  unfold G1 at hg
  have hpk := k2 (by omega)
  have hsent : (pollF a.e now).2 ≠ [] → 60 ≤ a.sent := fun hne => by
    have := List.length_pos_iff.2 hne
    omega
  obtain ⟨q1, q2⟩ := hx.still hpk
  obtain ⟨h1, h2, h3, h4, h5⟩ := pollF_same (e := a.e) now
  have hwin : a.e.sent ≤ a.e.acked + (min 4 a.e.queue.length : Nat) := by
    have := ta.win
    have := ea.cons.2.2
    omega
  have hfull : a'.e.full := by
    rcases pollF_full ea now hwin with h | h
    · exact .inl (hpk (by rw [← h2]; exact h))
    · refine .inr ?_
      rw [h3, h5] at h
      rw [q1, h, hpre.wa.acked, hpre.wa.queue, hx.pre.wa.acked, hx.pre.wa.queue]
  rcases hp with rfl | ⟨c1, c2, hf, ht⟩ | ⟨rfl, p, d, hr, hm, hd, hs⟩
  · refine ⟨9, by omega, by omega, .inr (.inl ⟨by omega, by omega, hfull, ?_⟩)⟩
    rw [q2]
    have := pollF_timer a.e now ta.timer
    omega
  · by_cases hlt : now < a.e.timer
    · refine ⟨c - 1, by omega, by omega, .inr (.inl ⟨by omega, by omega, hfull, ?_⟩)⟩
      rw [q2, pollF_wait hf hlt]
      omega
    · obtain ⟨p, hr, hb, hs, hk⟩ := pollF_try ea (now := now) (.inr (by rw [hpre.wa.queue]; exact hR)) (by omega) hf
      have h60 := hsent (fun h => by rw [h] at hb; simp at hb)
      have hfl := hl.good (by have := ra.fates; omega) hb
      exact ⟨1, by omega, by omega, .inr (.inr ⟨rfl, p, now + 1, hr, hfl, Int.le_refl _, hs.trans hpre.wa.epoch⟩)⟩
  · exact absurd hs (hx.none p d hr (pollS_keep hm) hd)
def Prog1 (T0 now : Int) (a : SD) : Prop := ∃ c, Ph1 now a c ∧ now + c ≤ T0 + 10 * (G1 a + 1)
theorem Prog1.start {a : SD} {now : Int} (ra : Room a) : Prog1 now now a := by
  have h3 := ra.sent
  refine ⟨10, .inl rfl, ?_⟩
  unfold G1 knows
  split <;> omega
theorem Prog1.step {P R : List (List UInt8)} {a a' b b' : SD} {now T0 : Int} (h : Prog1 T0 now a) (hpre : Pre P R a b) (hR : R ≠ []) (ea : a.e.LS) (ta : Tk now a) (ra : Room a) (hx : PreEx P R now a a' b') (hl : Left now a a') : Prog1 T0 (now + 1) a' := by
  obtain ⟨c, hp, hc⟩ := h
  have hgrow : G1 a ≤ G1 a' := by
    have k1 := (knows_mono hx.peer).1
    have s1 := hl.sent.trans (pollS_sent now a)
    unfold G1
    omega
  have hc1 := hp.range.1
  rcases hp.step hpre hR ea ta ra hx hl with h | ⟨c', h1, h2, h3⟩
  · exact ⟨10, .inl rfl, by omega⟩
  · exact ⟨c', h3, by omega⟩
theorem Prog1.bound {a : SD} {now T0 : Int} (h : Prog1 T0 now a) : now < T0 + 620 := by
  obtain ⟨c, hp, hc⟩ := h
  have := hp.range.1
  have := knows_one a.e
  unfold G1 at hc
  omega
/-- what holds behind the restart -/
def Rst (P R : List (List UInt8)) (T0 now : Int) (a b : SD) : Prop :=
  (Pre P R a b ∧ Prog1 T0 now a) ∨ ∃ z, Post P R a b z ∧ (Done a z ∨ ∃ T2 : Int, T2 ≤ T0 + 620 ∧ Prog T2 now a z)
theorem Rst.step {P R : List (List UInt8)} {a b a' b' : SD} {now T0 : Int} {m n : Nat} (h : Rst P R T0 now a b) (hR : R ≠ []) (hn : 0 ≤ now) (la : a.LS m n) (lb : b.LS m n) (ft : Fit now a b) (hx : Exch now a b a' b') : Rst P R T0 (now + 1) a' b' := by
  have ft' := ft.exch hn la lb hx
  rcases h with ⟨hp, hg⟩ | ⟨z, hz, hd⟩
  · rcases hp.exch la lb hx with hx1 | ⟨z', hz'⟩
    · exact .inl ⟨hx1.pre, hg.step hp hR la.e ft.ta ft.ra hx1 hx.left.1⟩
    · refine .inr ⟨z', hz', ?_⟩
      obtain ⟨k, hk, hs⟩ := hz'.sh
      have fz := hs.fit ft'
      by_cases hd : Done a' z'
      · exact .inl hd
      · exact .inr ⟨now + 1, by have := hg.bound; omega, Prog.start hz'.two fz.ra fz.rb hd⟩
  · obtain ⟨z', hz', x1, lz⟩ := hz.exch la lb hx
    refine .inr ⟨z', hz', ?_⟩
    obtain ⟨k, hk, hs⟩ := hz.sh
    rcases hd with hd | ⟨T2, hT, hg⟩
    · exact .inl (hd.exch hz.two la lz x1)
    · by_cases hd : Done a' z'
      · exact .inl hd
      · exact .inr ⟨T2, hT, hg.step hz.two la lz (hs.fit ft) x1 hd⟩
/-- all of the later messages have come -/
theorem Rst.end_ {P R : List (List UInt8)} {a b : SD} {now T0 : Int} (h : Rst P R T0 now a b) (hd : T0 + 620 + 12 * (123 + R.length) ≤ now ∨ (a.e.queue = [] ∧ b.e.peer = 2)) : ∃ n, n ≤ P.length ∧ b.got = (P.take n).flatten ++ R.flatten ∧ b.resets = 1 ∧ a.resets = 0 ∧ a.e.queue = [] ∧ b.e.peer = 2 := by
  rcases h with ⟨hp, hg⟩ | ⟨z, hz, hdn⟩
  · exfalso
    have h1 := hg.bound
    have h2 := hp.wb.peer
    omega
  · obtain ⟨n, hn, hs⟩ := hz.sh
    have hq : a.e.queue = [] := by
      rcases hd with hd | hd
      · rcases hdn with hdn | ⟨T2, hT, hg⟩
        · exact hdn.2.2.1
        · have := hg.bound hz.two
          simp at this
          omega
      · exact hd.1
    refine ⟨n, hn, ?_, ?_, hz.two.fro.resets, hq, by rw [hs.e]; exact hz.peer⟩
    · rw [hs.got, hz.two.fw.done hq]
    · rw [hs.resets, hz.two.fw.resets]; rfl
end Go.Proofs.Ytnobepobalpccaa
