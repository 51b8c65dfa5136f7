/- What holds of a connection on which one end pushes: the window, the acknowledgements. No walk here. -/
import Derived.Test.YtnobepobalpccaaProtI
namespace Go.Proofs.Ytnobepobalpccaa
set_option linter.unusedVariables false

/-- what the first end's datagrams may say -/
def FlA (N : Int) (b : List UInt8) : Prop := ∀ p, DecIs b p 0 → p.src = 1 ∧ (p.kind = 2 → p.seq ≤ N ∧ p.body.length = 1)
/-- what the second end's datagrams may say -/
def FlB (g : Int) (b : List UInt8) : Prop := ∀ p, DecIs b p 0 → p.src = 1 ∧ p.ack ≤ g
structure WinA (N : Int) (a : SD) : Prop where
  epoch : a.e.epoch = 1
  peer : a.e.peer = 0 ∨ a.e.peer = 1
  new : a.e.peer = 0 → a.e.acked = 0 ∧ a.e.sent = 0
  all : a.e.acked + a.e.queue.length = N
  win : a.e.sent - a.e.acked ≤ 4
  bodies : ∀ x ∈ a.e.queue, x.length = 1
  fl : ∀ z ∈ a.fl, FlA N z.2
structure WinB (b : SD) : Prop where
  epoch : b.e.epoch = 1
  peer : b.e.peer = 0 ∨ b.e.peer = 1
  new : b.e.peer = 0 → b.e.got = 0
  queue : b.e.queue = []
  got : (b.got.length : Int) = b.e.got
  fl : ∀ z ∈ b.fl, FlB b.e.got z.2
structure Win (N : Int) (a b : SD) : Prop where
  wa : WinA N a
  wb : WinB b
  low : a.e.acked ≤ b.e.got
  high : b.e.got ≤ N
theorem FlB.more {g g' : Int} {b : List UInt8} (h : FlB g b) (hg : g ≤ g') : FlB g' b := fun p hp => ⟨(h p hp).1, by have := (h p hp).2; omega⟩
/-- what is sent, undamaged or seen to be damaged -/
theorem dmg_own {p : Pkt} {f : Fate} (hr : rightP p) (hf : f.OK) {q : Pkt} (h : DecIs (damagedL (encP p) f) q 0) : q = p := dmg_dec hr hf h
theorem sendAll_fl {φ : List UInt8 → Prop} (now : Int) (l : List (List UInt8)) : ∀ (s : SD), (∀ f ∈ s.fates, f.OK) → (∀ z ∈ s.fl, φ z.2) → (∀ b ∈ l, ∀ f : Fate, f.OK → φ (damagedL b f)) → ∀ z ∈ (sendAll now s l).fl, φ z.2 := by
  induction l with
  | nil => intro s _ h _; exact h
  | cons b l ih =>
    intro s hf h hb
    refine ih (sendOne now s b) hf ?_ (fun c hc => hb c (by simp [hc]))
    intro z hz
    rcases List.mem_append.1 hz with hz | hz
    · exact h z hz
    · rw [(sentL_mem hz).1]
      exact hb b (by simp) _ (fateOf_ok hf s.sent)
theorem pollS_e (now : Int) (s : SD) : (pollS now s).e = (pollF s.e now).1 := sendAll_e now _ _
theorem pollS_got (now : Int) (s : SD) : (pollS now s).got = s.got := (sendAll_got now _ _).1
/-- the packets of a tick -/
theorem pollF_pkt {e : EP} {now : Int} (hc : e.Cons) {b : List UInt8} (hb : b ∈ (pollF e now).2) : ∃ p, rightP p ∧ b = encP p ∧ p.src = e.epoch ∧ (p.ack = e.got ∨ p.ack = 0) ∧ (p.kind = 2 → p.seq ≤ e.acked + e.queue.length ∧ p.body ∈ e.queue) := by
  have hb' : b ∈ (pollM e now).2 := hb
  unfold pollM at hb'
  split at hb'
  · split at hb'
    · rcases sendF_mem hb' with hb' | ⟨h1, h2⟩
      · simp at hb'
      · exact ⟨_, h1, h2, rfl, .inr rfl, fun h => by simp at h⟩
    · simp at hb'
  · obtain ⟨f1, f2, f3⟩ := first_cases e now hc
    have hout : ∀ b ∈ outsL e (e.first now) (min 4 e.queue.length - (e.first now - e.acked).toNat), ∃ p, rightP p ∧ b = encP p ∧ p.src = e.epoch ∧ (p.ack = e.got ∨ p.ack = 0) ∧ (p.kind = 2 → p.seq ≤ e.acked + e.queue.length ∧ p.body ∈ e.queue) := by
      intro b hb
      obtain ⟨j, hj, hr, rfl⟩ := outsL_mem hb
      refine ⟨_, hr, rfl, rfl, .inl rfl, fun _ => ⟨?_, ?_⟩⟩
      · show e.first now + (j : Int) + 1 ≤ e.acked + e.queue.length
        omega
      · show ((e.queue[(e.first now - e.acked).toNat + j]?).getD []) ∈ e.queue
        rw [List.getElem?_eq_getElem (by omega)]
        exact List.getElem_mem _
    simp only at hb'
    split at hb'
    · rcases sendF_mem hb' with hb' | ⟨h1, h2⟩
      · exact hout b hb'
      · exact ⟨_, h1, h2, rfl, .inl rfl, fun h => by simp at h⟩
    · exact hout b hb'
theorem pollF_sent {e : EP} (now : Int) (hc : e.Cons) (hw : e.sent - e.acked ≤ 4) : (pollF e now).1.sent - (pollF e now).1.acked ≤ 4 ∧ (e.peer = 0 → (pollF e now).1.sent = e.sent) := by
  show (pollM e now).1.sent - (pollM e now).1.acked ≤ 4 ∧ (e.peer = 0 → (pollM e now).1.sent = e.sent)
  unfold pollM
  split
  · split
    · exact ⟨hw, fun _ => rfl⟩
    · exact ⟨hw, fun _ => rfl⟩
  · rename_i hp
    obtain ⟨f1, f2, f3⟩ := first_cases e now hc
    refine ⟨?_, fun h => absurd h hp⟩
    show e.first now + ((min 4 e.queue.length - (e.first now - e.acked).toNat : Nat) : Int) - e.acked ≤ 4
    omega
theorem WinA.poll {N : Int} {a : SD} (h : WinA N a) (hc : a.e.Cons) (hf : ∀ f ∈ a.fates, f.OK) (now : Int) : WinA N (pollS now a) := by
  obtain ⟨h1, h2, h3, h4, h5⟩ := pollF_same (e := a.e) now
  obtain ⟨s1, s2⟩ := pollF_sent now hc h.win
  have he := pollS_e now a
  refine ⟨by rw [he, h1]; exact h.epoch, by rw [he, h2]; exact h.peer, ?_, by rw [he, h3, h5]; exact h.all, by rw [he]; exact s1, by rw [he, h5]; exact h.bodies, ?_⟩
  · rw [he, h2, h3]
    intro hp
    exact ⟨(h.new hp).1, by rw [s2 hp]; exact (h.new hp).2⟩
  · refine sendAll_fl now _ (a.setE _) hf h.fl ?_
    intro b hb f hfo q hq
    obtain ⟨p, hr, rfl, e1, e2, e3⟩ := pollF_pkt hc hb
    rw [dmg_dec hr hfo hq]
    exact ⟨by rw [e1]; exact h.epoch, fun hk => ⟨by have := (e3 hk).1; have := h.all; omega, h.bodies _ (e3 hk).2⟩⟩
theorem WinB.poll {b : SD} (h : WinB b) (hc : b.e.Cons) (hg : 0 ≤ b.e.got) (hf : ∀ f ∈ b.fates, f.OK) (now : Int) : WinB (pollS now b) := by
  obtain ⟨h1, h2, h3, h4, h5⟩ := pollF_same (e := b.e) now
  have he := pollS_e now b
  refine ⟨by rw [he, h1]; exact h.epoch, by rw [he, h2]; exact h.peer, by rw [he, h2, h4]; exact h.new, by rw [he, h5]; exact h.queue, by rw [pollS_got, he, h4]; exact h.got, ?_⟩
  rw [he, h4]
  refine sendAll_fl now _ (b.setE _) hf h.fl ?_
  intro c hb f hfo q hq
  obtain ⟨p, hr, rfl, e1, e2, e3⟩ := pollF_pkt hc hb
  rw [dmg_dec hr hfo hq]
  exact ⟨by rw [e1]; exact h.epoch, by rcases e2 with e | e <;> omega⟩
/-- the first end receives -/
theorem Win.recvA {N : Int} {a b a' : SD} (h : Win N a b) {c : List UInt8} (hc : FlB b.e.got c) (hr : RecvStep a c a') : Win N a' b := by
  obtain ⟨p, er, hd, rfl⟩ := hr
  have ha := h.wa
  unfold recvF
  split
  · exact ⟨⟨ha.epoch, ha.peer, ha.new, ha.all, ha.win, ha.bodies, ha.fl⟩, h.wb, h.low, h.high⟩
  · rename_i hne
    have h0 : er = 0 := Classical.byContradiction fun h => hne (.inl h)
    subst h0
    obtain ⟨hs, hk⟩ := hc p hd
    have hcons : True := trivial
    have h1 : ∃ e1 rs, recv1 a.e p = (e1, rs) ∧ e1.epoch = a.e.epoch ∧ e1.peer = 1 ∧ e1.acked = a.e.acked ∧ e1.queue = a.e.queue ∧ (e1.sent = a.e.sent) := by
      unfold recv1
      split
      · rename_i hlt
        have hp0 : a.e.peer = 0 := by rcases ha.peer with e | e <;> omega
        refine ⟨_, _, rfl, rfl, hs, (ha.new hp0).1.symm, by simp [hp0], (ha.new hp0).2.symm⟩
      · rename_i hlt
        exact ⟨_, _, rfl, rfl, by rcases ha.peer with e | e <;> omega, rfl, rfl, rfl⟩
    obtain ⟨e1, rs, hr1, x1, x2, x3, x4, x5⟩ := h1
    rw [hr1]
    split
    · exact ⟨⟨x1.trans ha.epoch, .inr x2, fun hp => by rw [show (e1.owes.peer = 0) = (e1.peer = 0) from rfl] at hp; omega, by show e1.acked + (e1.queue.length : Int) = N; rw [x3, x4]; exact ha.all, by show e1.sent - e1.acked ≤ 4; rw [x3, x5]; exact ha.win, by show ∀ x ∈ e1.queue, x.length = 1; rw [x4]; exact ha.bodies, ha.fl⟩, h.wb, by show e1.acked ≤ _; rw [x3]; exact h.low, h.high⟩
    · have h3 : ∀ e2 : EP, (recv3 e2 p).1.epoch = e2.epoch ∧ (recv3 e2 p).1.peer = e2.peer ∧ (recv3 e2 p).1.acked = e2.acked ∧ (recv3 e2 p).1.sent = e2.sent ∧ (recv3 e2 p).1.queue = e2.queue := by
        intro e2
        unfold recv3
        split
        · split <;> exact ⟨rfl, rfl, rfl, rfl, rfl⟩
        · split <;> exact ⟨rfl, rfl, rfl, rfl, rfl⟩
      have h2 : ∃ e2, recv2 e1 p = e2 ∧ e2.epoch = 1 ∧ e2.peer = 1 ∧ e2.acked + (e2.queue.length : Int) = N ∧ e2.sent - e2.acked ≤ 4 ∧ (∀ x ∈ e2.queue, x.length = 1) ∧ e2.acked ≤ b.e.got := by
        unfold recv2
        have hall := ha.all
        have hwin := ha.win
        split
        · rename_i hcnd
          refine ⟨_, rfl, x1.trans ha.epoch, x2, ?_, ?_, ?_, hk⟩
          · show p.ack + ((e1.queue.drop (p.ack - e1.acked).toNat).length : Int) = N
            rw [List.length_drop]
            rw [x3, x4] at *
            omega
          · show max e1.sent p.ack - p.ack ≤ 4
            rw [x5]; rw [x3] at hcnd; omega
          · intro x hx
            exact ha.bodies x (by rw [← x4]; exact List.mem_of_mem_drop hx)
        · exact ⟨_, rfl, x1.trans ha.epoch, x2, by rw [x3, x4]; exact hall, by rw [x3, x5]; exact hwin, by rw [x4]; exact ha.bodies, by rw [x3]; exact h.low⟩
      obtain ⟨e2, hr2, y1, y2, y3, y4, y5, y6⟩ := h2
      obtain ⟨z1, z2, z3, z4, z5⟩ := h3 e2
      simp only [hr2]
      exact ⟨⟨z1.trans y1, .inr (z2.trans y2), fun hp => by simp only [z2, y2] at hp; omega, by simp only [z3, z5]; exact y3, by simp only [z3, z4]; exact y4, by simp only [z5]; exact y5, ha.fl⟩, h.wb, by simp only [z3]; exact y6, h.high⟩
/-- the second end receives -/
theorem Win.recvB {N : Int} {a b b' : SD} (h : Win N a b) {c : List UInt8} (hc : FlA N c) (hr : RecvStep b c b') : Win N a b' ∧ b.e.got ≤ b'.e.got := by
  obtain ⟨p, er, hd, rfl⟩ := hr
  have hb := h.wb
  have hlow := h.low
  have hhigh := h.high
  unfold recvF
  split
  · exact ⟨⟨h.wa, ⟨hb.epoch, hb.peer, hb.new, hb.queue, by simpa using hb.got, hb.fl⟩, h.low, h.high⟩, Int.le_refl _⟩
  · rename_i hne
    have h0 : er = 0 := Classical.byContradiction fun h => hne (.inl h)
    subst h0
    obtain ⟨hs, hk⟩ := hc p hd
    have h1 : ∃ e1 rs, recv1 b.e p = (e1, rs) ∧ e1.epoch = b.e.epoch ∧ e1.peer = 1 ∧ e1.got = b.e.got ∧ e1.queue = [] := by
      unfold recv1
      split
      · rename_i hlt
        have hp0 : b.e.peer = 0 := by rcases hb.peer with e | e <;> omega
        exact ⟨_, _, rfl, rfl, hs, (hb.new hp0).symm, by simp [hp0, hb.queue]⟩
      · rename_i hlt
        exact ⟨_, _, rfl, rfl, by rcases hb.peer with e | e <;> omega, rfl, hb.queue⟩
    obtain ⟨e1, rs, hr1, x1, x2, x3, x4⟩ := h1
    rw [hr1]
    split
    · refine ⟨⟨h.wa, ⟨x1.trans hb.epoch, .inr x2, fun hp => by rw [show (e1.owes.peer = 0) = (e1.peer = 0) from rfl] at hp; omega, x4, ?_, ?_⟩, ?_, ?_⟩, ?_⟩
      · show ((b.got ++ [].flatten).length : Int) = e1.got
        rw [x3]; simpa using hb.got
      · intro z hz
        exact (hb.fl z hz).more (by show b.e.got ≤ e1.got; omega)
      · show a.e.acked ≤ e1.got; omega
      · show e1.got ≤ N; omega
      · show b.e.got ≤ e1.got; omega
    · have h2 : recv2 e1 p = e1 := by
        unfold recv2
        rw [if_neg]
        rw [x4]
        rintro ⟨q1, q2⟩
        simp at q2
        omega
      simp only [h2]
      have h3 : (recv3 e1 p).1.epoch = e1.epoch ∧ (recv3 e1 p).1.peer = e1.peer ∧ (recv3 e1 p).1.queue = e1.queue ∧ e1.got ≤ (recv3 e1 p).1.got ∧ (recv3 e1 p).1.got ≤ N ∧ ((recv3 e1 p).2.flatten.length : Int) + e1.got = (recv3 e1 p).1.got := by
        unfold recv3
        split
        · rename_i hk2
          obtain ⟨k1, k2⟩ := hk hk2
          split
          · rename_i hsq
            exact ⟨rfl, rfl, rfl, by show e1.got ≤ e1.got + 1; omega, by show e1.got + 1 ≤ N; omega, by show (([p.body].flatten.length : Nat) : Int) + e1.got = e1.got + 1; simp [k2]; omega⟩
          · exact ⟨rfl, rfl, rfl, Int.le_refl _, by show e1.got ≤ N; omega, by simp [EP.owes]⟩
        · split
          · exact ⟨rfl, rfl, rfl, Int.le_refl _, by show e1.got ≤ N; omega, by simp [EP.owes]⟩
          · exact ⟨rfl, rfl, rfl, Int.le_refl _, by show e1.got ≤ N; omega, by simp⟩
      obtain ⟨z1, z2, z3, z4, z5, z6⟩ := h3
      generalize recv3 e1 p = r at *
      refine ⟨⟨h.wa, ⟨by show r.1.epoch = 1; rw [z1, x1]; exact hb.epoch, .inr (by show r.1.peer = 1; rw [z2]; exact x2), fun hp => ?_, by show r.1.queue = []; rw [z3]; exact x4, ?_, ?_⟩, ?_, z5⟩, ?_⟩
      · have hp' : r.1.peer = 0 := hp
        omega
      · show ((b.got ++ r.2.flatten).length : Int) = r.1.got
        have := hb.got
        rw [List.length_append]
        omega
      · intro z hz
        exact (hb.fl z hz).more (by show b.e.got ≤ r.1.got; omega)
      · show a.e.acked ≤ r.1.got; omega
      · show b.e.got ≤ r.1.got; omega
theorem Win.recvAllB {N : Int} {a b b' : SD} {l : List (List UInt8)} (h : Win N a b) (hr : RecvAll b l b') : (∀ c ∈ l, FlA N c) → Win N a b' ∧ b.e.got ≤ b'.e.got := by
  induction hr with
  | nil => intro _; exact ⟨h, Int.le_refl _⟩
  | snoc h1 h2 ih =>
    intro hb
    obtain ⟨i1, i2⟩ := ih fun c hc => hb c (by simp [hc])
    obtain ⟨j1, j2⟩ := i1.recvB (hb _ (by simp)) h2
    exact ⟨j1, by omega⟩
theorem Win.recvAllA {N : Int} {a b a' : SD} {l : List (List UInt8)} (h : Win N a b) (hr : RecvAll a l a') : (∀ c ∈ l, FlB b.e.got c) → Win N a' b := by
  induction hr with
  | nil => intro _; exact h
  | snoc h1 h2 ih => intro hb; exact (ih fun c hc => hb c (by simp [hc])).recvA (hb _ (by simp)) h2
theorem due_mem {x : SD} {now : Int} {outs : List (List UInt8)} {φ : List UInt8 → Prop} (h : ∀ z ∈ x.fl, φ z.2) (hp : outs.Perm ((x.fl.filter (fun z => !decide (now < z.1))).map (·.2))) : ∀ b ∈ outs, φ b := fun b hb => by
  obtain ⟨z, hz, rfl⟩ := List.mem_map.1 (hp.mem_iff.1 hb)
  exact h z (List.mem_filter.1 hz).1
/-- a tick -/
theorem Win.exch {N : Int} {a b a' b' : SD} {now : Int} {m n : Nat} (h : Win N a b) (ha : a.LS m n) (hb : b.LS m n) (hx : Exch now a b a' b') : Win N a' b' := by
  obtain ⟨a2, b2, ⟨o1, p1, rfl, r1⟩, ⟨o2, p2, rfl, r2⟩⟩ := hx
  have wa := h.wa.poll ha.e.cons ha.fates now
  have wb := h.wb.poll hb.e.cons hb.e.got.1 hb.fates now
  obtain ⟨_, _, g3, g4, _⟩ := pollF_same (e := a.e) now
  obtain ⟨_, _, _, k4, _⟩ := pollF_same (e := b.e) now
  have h1 : Win N (pollS now a) (pollS now b) := ⟨wa, wb, by rw [pollS_e, pollS_e, g3, k4]; exact h.low, by rw [pollS_e, k4]; exact h.high⟩
  have h2 : Win N ⟨(pollS now a).e, (pollS now a).fl.filter (fun z => decide (now < z.1)), (pollS now a).fates, (pollS now a).sent, (pollS now a).got, (pollS now a).resets⟩ (pollS now b) :=
    ⟨⟨h1.wa.epoch, h1.wa.peer, h1.wa.new, h1.wa.all, h1.wa.win, h1.wa.bodies, fun z hz => h1.wa.fl z (List.mem_filter.1 hz).1⟩, h1.wb, h1.low, h1.high⟩
  obtain ⟨h3, _⟩ := h2.recvAllB r1 (due_mem h1.wa.fl p1)
  have h4 : Win N ⟨(pollS now a).e, (pollS now a).fl.filter (fun z => decide (now < z.1)), (pollS now a).fates, (pollS now a).sent, (pollS now a).got, (pollS now a).resets⟩ ⟨b2.e, b2.fl.filter (fun z => decide (now < z.1)), b2.fates, b2.sent, b2.got, b2.resets⟩ :=
    ⟨h3.wa, ⟨h3.wb.epoch, h3.wb.peer, h3.wb.new, h3.wb.queue, h3.wb.got, fun z hz => h3.wb.fl z (List.mem_filter.1 hz).1⟩, h3.low, h3.high⟩
  exact h4.recvAllA r2 (due_mem h3.wb.fl p2)
def SD.push (s : SD) (b : List UInt8) : SD := s.setE ⟨s.e.epoch, s.e.peer, s.e.acked, s.e.sent, s.e.got, s.e.timer, s.e.queue ++ [b], s.e.owe⟩
theorem Win.push {N : Int} {a b : SD} (h : Win N a b) {x : List UInt8} (hx : x.length = 1) : Win (N + 1) (a.push x) b := by
  refine ⟨⟨h.wa.epoch, h.wa.peer, h.wa.new, ?_, h.wa.win, ?_, fun z hz p hp => ⟨(h.wa.fl z hz p hp).1, fun hk => ⟨by have := ((h.wa.fl z hz p hp).2 hk).1; omega, ((h.wa.fl z hz p hp).2 hk).2⟩⟩⟩, h.wb, h.low, by have := h.high; omega⟩
  · show a.e.acked + ((a.e.queue ++ [x]).length : Int) = N + 1
    have := h.wa.all
    simp
    omega
  · intro y hy
    rcases List.mem_append.1 hy with hy | hy
    · exact h.wa.bodies y hy
    · simp only [List.mem_singleton] at hy
      subst hy
      exact hx
theorem SD.LS.push {m n : Nat} {s : SD} (h : s.LS m n) {x : List UInt8} (hx : x.length ≤ 10) (hq : s.e.acked + s.e.queue.length < 1000) : (s.push x).LS m n := by
  obtain ⟨c1, c2, c3⟩ := h.e.cons
  refine ⟨⟨h.e.epoch, h.e.peer, ⟨c1, c2, ?_⟩, h.e.got, ?_, h.e.timer, ?_⟩, h.fl, h.few, h.fates, h.sent, h.got, h.resets⟩
  · show s.e.sent - s.e.acked ≤ ((s.e.queue ++ [x]).length : Int)
    simp
    omega
  · show s.e.acked + ((s.e.queue ++ [x]).length : Int) ≤ 1000
    simp
    omega
  · intro y hy
    rcases List.mem_append.1 hy with hy | hy
    · exact h.e.bodies y hy
    · simp only [List.mem_singleton] at hy
      subst hy
      exact hx
end Go.Proofs.Ytnobepobalpccaa
