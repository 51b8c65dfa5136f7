/- The plain laws of the protocol: what is safe, progress, silence. No walk here. -/
import Derived.Test.YtnobepobalpccaaProtI
import Derived.Test.YtnobepobalpccaaProtW
namespace Go.Proofs.Ytnobepobalpccaa
open Go.RowKit
set_option linter.unusedVariables false

/-- a datagram of the incarnation ex, or one of an earlier incarnation that is seen to be old -/
def DataOK (P : List (List UInt8)) (ex pr : Int) (b : List UInt8) : Prop := ∀ p, DecIs b p 0 → (p.src < ex ∧ pr = ex) ∨ (p.src = ex ∧ (p.kind = 2 → 1 ≤ p.seq ∧ P[(p.seq - 1).toNat]? = some p.body))
def AckOK (ex g : Int) (b : List UInt8) : Prop := ∀ p, DecIs b p 0 → p.dst = ex → p.ack ≤ g
theorem AckOK.more {ex g g' : Int} {b : List UInt8} (h : AckOK ex g b) (hg : g ≤ g') : AckOK ex g' b := fun p hp hd => by have := h p hp hd; omega
theorem DataOK.peer {P : List (List UInt8)} {ex pr pr' : Int} {b : List UInt8} (h : DataOK P ex pr b) (hx : 1 ≤ ex) (hp : pr ≠ 0 → pr' = pr) : DataOK P ex pr' b := fun p hd => by
  rcases h p hd with ⟨h1, h2⟩ | h1
  · exact .inl ⟨h1, by have := hp (by omega); omega⟩
  · exact .inr h1
theorem DataOK.known {P : List (List UInt8)} {ex pr : Int} {b : List UInt8} (h : DataOK P ex pr b) : DataOK P ex ex b := fun p hd => by
  rcases h p hd with ⟨h1, h2⟩ | h1
  · exact .inl ⟨h1, rfl⟩
  · exact .inr h1
/-- one direction: what is pushed at x and delivered at y -/
structure Dir (P : List (List UInt8)) (x y : SD) : Prop where
  ep : 1 ≤ x.e.epoch
  ack0 : 0 ≤ x.e.acked
  queue : x.e.queue = P.drop x.e.acked.toNat
  gotn : y.e.got ≤ P.length
  got : y.got = (P.take y.e.got.toNat).flatten
  low : x.e.acked ≤ y.e.got
  peer : y.e.peer = 0 ∨ y.e.peer = x.e.epoch
  newy : y.e.peer = 0 → y.e.got = 0
  newx : x.e.peer = 0 → x.e.acked = 0 ∧ x.e.sent = 0
  fl : ∀ z ∈ x.fl, DataOK P x.e.epoch y.e.peer z.2
  bk : ∀ z ∈ y.fl, AckOK x.e.epoch y.e.got z.2
  resets : y.resets = 0
structure Two (P Q : List (List UInt8)) (x y : SD) : Prop where
  fw : Dir P x y
  fro : Dir Q y x
theorem Two.symm {P Q : List (List UInt8)} {x y : SD} (h : Two P Q x y) : Two Q P y x := ⟨h.fro, h.fw⟩
/-- the packets of a tick -/
theorem pollF_data {e : EP} {now : Int} (hc : e.Cons) {b : List UInt8} (hb : b ∈ (pollF e now).2) : ∃ p, rightP p ∧ b = encP p ∧ p.src = e.epoch ∧ (p.ack = e.got ∨ p.ack = 0) ∧ (p.kind = 2 → e.acked < p.seq ∧ e.queue[(p.seq - 1 - e.acked).toNat]? = some p.body) := by
  have hb' : b ∈ (pollM e now).2 := hb
  unfold pollM at hb'
  split at hb'
  · split at hb'
    · rcases sendF_mem hb' with hb' | ⟨h1, h2⟩
      · simp at hb'
      · exact ⟨_, h1, h2, rfl, .inr rfl, fun h => by simp at h⟩
    · simp at hb'
  · obtain ⟨f1, f2, f3⟩ := first_cases e now hc
    have hout : ∀ b ∈ outsL e (e.first now) (min 4 e.queue.length - (e.first now - e.acked).toNat), ∃ p, rightP p ∧ b = encP p ∧ p.src = e.epoch ∧ (p.ack = e.got ∨ p.ack = 0) ∧ (p.kind = 2 → e.acked < p.seq ∧ e.queue[(p.seq - 1 - e.acked).toNat]? = some p.body) := by
      intro b hb
      obtain ⟨j, hj, hr, rfl⟩ := outsL_mem hb
      refine ⟨_, hr, rfl, rfl, .inl rfl, fun _ => ⟨?_, ?_⟩⟩
      · show e.acked < e.first now + (j : Int) + 1
        omega
      · show e.queue[(e.first now + (j : Int) + 1 - 1 - e.acked).toNat]? = some ((e.queue[(e.first now - e.acked).toNat + j]?).getD [])
        rw [show (e.first now + (j : Int) + 1 - 1 - e.acked).toNat = (e.first now - e.acked).toNat + j by omega, List.getElem?_eq_getElem (by omega)]
        rfl
    simp only at hb'
    split at hb'
    · rcases sendF_mem hb' with hb' | ⟨h1, h2⟩
      · exact hout b hb'
      · exact ⟨_, h1, h2, rfl, .inl rfl, fun h => by simp at h⟩
    · exact hout b hb'
theorem pollF_new {e : EP} (now : Int) (hp : e.peer = 0) : (pollF e now).1.sent = e.sent := by
  show (pollM e now).1.sent = e.sent
  unfold pollM
  rw [if_pos hp]
  split <;> rfl
theorem Two.poll {P Q : List (List UInt8)} {x y : SD} (h : Two P Q x y) (hc : x.e.Cons) (hg : 0 ≤ x.e.got) (hf : ∀ f ∈ x.fates, f.OK) (now : Int) : Two P Q (pollS now x) y := by
  obtain ⟨h1, h2, h3, h4, h5⟩ := pollF_same (e := x.e) now
  have he := pollS_e now x
  obtain ⟨_, _, hrs, _⟩ := sendAll_got now (pollF x.e now).2 (x.setE (pollF x.e now).1)
  have hto := h.fw
  have hfr := h.fro
  have hfl : ∀ z ∈ (pollS now x).fl, DataOK P x.e.epoch y.e.peer z.2 ∧ AckOK y.e.epoch x.e.got z.2 := by
    refine sendAll_fl (φ := fun c => DataOK P x.e.epoch y.e.peer c ∧ AckOK y.e.epoch x.e.got c) now _ (x.setE _) hf (fun z hz => ⟨hto.fl z hz, hfr.bk z hz⟩) ?_
    intro b hb f hfo
    obtain ⟨p, hr, rfl, e1, e2, e3⟩ := pollF_data hc hb
    refine ⟨fun q hq => .inr ?_, fun q hq _ => ?_⟩
    · rw [dmg_dec hr hfo hq]
      refine ⟨e1, fun hk => ?_⟩
      obtain ⟨k1, k2⟩ := e3 hk
      have := hto.ack0
      refine ⟨by omega, ?_⟩
      rw [hto.queue, List.getElem?_drop] at k2
      rw [← k2]
      congr 1
      omega
    · rw [dmg_dec hr hfo hq]
      rcases e2 with e | e <;> omega
  refine ⟨⟨by rw [he, h1]; exact hto.ep, by rw [he, h3]; exact hto.ack0, by rw [he, h3, h5]; exact hto.queue, hto.gotn, hto.got, by rw [he, h3]; exact hto.low, by rw [he, h1]; exact hto.peer, hto.newy, ?_, fun z hz => by rw [he, h1]; exact (hfl z hz).1, fun z hz => by rw [he, h1]; exact hto.bk z hz, hto.resets⟩,
    ⟨hfr.ep, hfr.ack0, hfr.queue, by rw [he, h4]; exact hfr.gotn, by rw [pollS_got, he, h4]; exact hfr.got, by rw [he, h4]; exact hfr.low, by rw [he, h2]; exact hfr.peer, by rw [he, h2, h4]; exact hfr.newy, hfr.newx, fun z hz => by rw [he, h2]; exact hfr.fl z hz, fun z hz => by rw [he, h4]; exact (hfl z hz).2, hrs.trans hfr.resets⟩⟩
  rw [he, h2, h3]
  intro hp
  exact ⟨(hto.newx hp).1, by rw [pollF_new now hp]; exact (hto.newx hp).2⟩
/-- a datagram of x arrives at y -/
theorem Two.put {P Q : List (List UInt8)} {x y : SD} (h : Two P Q x y) {e' : EP} {ms : List UInt8} {r : Int} (h1 : e'.epoch = y.e.epoch) (h2 : e'.peer = x.e.epoch) (h3 : 0 ≤ e'.acked) (h4 : e'.queue = Q.drop e'.acked.toNat) (h5 : e'.acked ≤ x.e.got) (h6 : y.e.got ≤ e'.got) (h7 : e'.got ≤ P.length) (h8 : y.got ++ ms = (P.take e'.got.toNat).flatten) (h9 : r = 0) :
    Two P Q x ⟨e', y.fl, y.fates, y.sent, y.got ++ ms, r⟩ := by
  have hto := h.fw
  have hfr := h.fro
  have hep := hto.ep
  have hlow := hto.low
  exact ⟨⟨hto.ep, hto.ack0, hto.queue, h7, h8, by show x.e.acked ≤ e'.got; omega, .inr h2, fun hp => absurd hp (by show ¬ e'.peer = 0; omega), hto.newx, fun z hz => by show DataOK P x.e.epoch e'.peer z.2; rw [h2]; exact (hto.fl z hz).known, fun z hz => (hto.bk z hz).more h6, h9⟩,
    ⟨by show 1 ≤ e'.epoch; rw [h1]; exact hfr.ep, h3, h4, hfr.gotn, hfr.got, h5, by show x.e.peer = 0 ∨ x.e.peer = e'.epoch; rw [h1]; exact hfr.peer, hfr.newy, fun hp => absurd hp (by show ¬ e'.peer = 0; omega), fun z hz => by show DataOK Q e'.epoch x.e.peer z.2; rw [h1]; exact hfr.fl z hz, fun z hz => by show AckOK e'.epoch x.e.got z.2; rw [h1]; exact hfr.bk z hz, hfr.resets⟩⟩
theorem Two.recv {P Q : List (List UInt8)} {x y y' : SD} (h : Two P Q x y) {c : List UInt8} (hd : DataOK P x.e.epoch y.e.peer c) (ha : AckOK y.e.epoch x.e.got c) (hr : RecvStep y c y') : Two P Q x y' ∧ y'.e.epoch = y.e.epoch ∧ (y.e.peer ≠ 0 → y'.e.peer = y.e.peer) := by
  obtain ⟨p, er, hdec, rfl⟩ := hr
  have hto := h.fw
  have hfr := h.fro
  have hep := hto.ep
  unfold recvF
  split
  · refine ⟨⟨⟨hto.ep, hto.ack0, hto.queue, hto.gotn, by simpa using hto.got, hto.low, hto.peer, hto.newy, hto.newx, hto.fl, hto.bk, by simpa using hto.resets⟩, ⟨hfr.ep, hfr.ack0, hfr.queue, hfr.gotn, hfr.got, hfr.low, hfr.peer, hfr.newy, hfr.newx, hfr.fl, hfr.bk, hfr.resets⟩⟩, rfl, fun _ => rfl⟩
  · rename_i hne
    have h0 : er = 0 := Classical.byContradiction fun h => hne (.inl h)
    subst h0
    obtain ⟨hs, hk⟩ : p.src = x.e.epoch ∧ (p.kind = 2 → 1 ≤ p.seq ∧ P[(p.seq - 1).toNat]? = some p.body) := by
      rcases hd p hdec with ⟨q1, q2⟩ | q
      · exact absurd (.inr (by omega)) hne
      · exact q
    have hpk : y.e.peer ≠ 0 → x.e.epoch = y.e.peer := fun h0 => by rcases hto.peer with e | e <;> omega
    have h1 : ∃ e1, recv1 y.e p = (e1, false) ∧ e1.epoch = y.e.epoch ∧ e1.peer = x.e.epoch ∧ e1.acked = y.e.acked ∧ e1.got = y.e.got ∧ e1.queue = y.e.queue := by
      unfold recv1
      split
      · rename_i hlt
        have hp0 : y.e.peer = 0 := by rcases hto.peer with e | e <;> omega
        refine ⟨⟨y.e.epoch, p.src, 0, 0, 0, 0, if y.e.peer = 0 then y.e.queue else [], y.e.owe⟩, by rw [hp0]; rfl, rfl, hs, (hfr.newx hp0).1.symm, (hto.newy hp0).symm, by simp [hp0]⟩
      · rename_i hlt
        exact ⟨_, rfl, rfl, by rcases hto.peer with e | e <;> omega, rfl, rfl, rfl⟩
    obtain ⟨e1, hr1, x1, x2, x3, x4, x5⟩ := h1
    rw [hr1]
    have hrs : (if (false : Bool) = true then y.resets + 1 else y.resets) = 0 := by simpa using hto.resets
    split
    · exact ⟨h.put (e' := e1.owes) (ms := [].flatten) x1 x2 (by show 0 ≤ e1.acked; rw [x3]; exact hfr.ack0) (by show e1.queue = Q.drop e1.acked.toNat; rw [x3, x5]; exact hfr.queue) (by show e1.acked ≤ _; rw [x3]; exact hfr.low) (by show _ ≤ e1.got; omega) (by show e1.got ≤ _; rw [x4]; exact hto.gotn) (by show y.got ++ [] = (P.take e1.got.toNat).flatten; rw [x4]; simpa using hto.got) hrs, x1, fun h0 => (show e1.peer = _ from x2).trans (hpk h0)⟩
    · rename_i hdst
      have hak := ha p hdec (Classical.byContradiction hdst)
      have h2 : ∃ e2, recv2 e1 p = e2 ∧ e2.epoch = y.e.epoch ∧ e2.peer = x.e.epoch ∧ 0 ≤ e2.acked ∧ e2.queue = Q.drop e2.acked.toNat ∧ e2.acked ≤ x.e.got ∧ e2.got = y.e.got := by
        have hq := hfr.queue
        have hlow := hfr.low
        have hack := hfr.ack0
        unfold recv2
        split
        · rename_i hcnd
          refine ⟨_, rfl, x1, x2, ?_, ?_, hak, x4⟩
          · show 0 ≤ p.ack; omega
          · show e1.queue.drop (p.ack - e1.acked).toNat = Q.drop p.ack.toNat
            rw [x5, hq, List.drop_drop, x3]
            congr 1
            omega
        · exact ⟨_, rfl, x1, x2, by omega, by rw [x5, x3]; exact hq, by omega, x4⟩
      obtain ⟨e2, hr2, y1, y2, y3, y4, y5, y6⟩ := h2
      simp only [hr2]
      have hgn := hto.gotn
      have hgot := hto.got
      have hg0 : 0 ≤ y.e.got := by have := hto.ack0; have := hto.low; omega
      unfold recv3
      split
      · rename_i hk2
        obtain ⟨k1, k2⟩ := hk hk2
        split
        · rename_i hsq
          obtain ⟨hlt, hbd⟩ := List.getElem?_eq_some_iff.1 k2
          have hnn : (p.seq - 1).toNat = y.e.got.toNat := by omega
          have hng : (e2.got + 1).toNat = y.e.got.toNat + 1 := by omega
          refine ⟨h.put (e' := ⟨e2.epoch, e2.peer, e2.acked, e2.sent, e2.got + 1, e2.timer, e2.queue, true⟩) (ms := [p.body].flatten) y1 y2 y3 y4 y5 (by show _ ≤ e2.got + 1; omega) (by show e2.got + 1 ≤ _; omega) ?_ hrs, y1, fun h0 => (show e2.peer = _ from y2).trans (hpk h0)⟩
          show y.got ++ [p.body].flatten = (P.take (e2.got + 1).toNat).flatten
          rw [hng, ← hnn, List.take_succ_eq_append_getElem hlt, List.flatten_append, hbd, hnn, ← hgot]
        · exact ⟨h.put (e' := e2.owes) (ms := [].flatten) y1 y2 y3 y4 y5 (by show _ ≤ e2.got; omega) (by show e2.got ≤ _; omega) (by show y.got ++ [] = (P.take e2.got.toNat).flatten; rw [y6]; simpa using hgot) hrs, y1, fun h0 => (show e2.peer = _ from y2).trans (hpk h0)⟩
      · split
        · exact ⟨h.put (e' := e2.owes) (ms := [].flatten) y1 y2 y3 y4 y5 (by show _ ≤ e2.got; omega) (by show e2.got ≤ _; omega) (by show y.got ++ [] = (P.take e2.got.toNat).flatten; rw [y6]; simpa using hgot) hrs, y1, fun h0 => (show e2.peer = _ from y2).trans (hpk h0)⟩
        · exact ⟨h.put (e' := e2) (ms := [].flatten) y1 y2 y3 y4 y5 (by omega) (by omega) (by rw [y6]; simpa using hgot) hrs, y1, fun h0 => (show e2.peer = _ from y2).trans (hpk h0)⟩
theorem Two.recvAll {P Q : List (List UInt8)} {x y y' : SD} {l : List (List UInt8)} (h : Two P Q x y) (hr : RecvAll y l y') : (∀ c ∈ l, DataOK P x.e.epoch y.e.peer c ∧ AckOK y.e.epoch x.e.got c) → Two P Q x y' ∧ y'.e.epoch = y.e.epoch ∧ (y.e.peer ≠ 0 → y'.e.peer = y.e.peer) := by
  induction hr with
  | nil => intro _; exact ⟨h, rfl, fun _ => rfl⟩
  | snoc h1 h2 ih =>
    intro hb
    obtain ⟨i1, i2, i3⟩ := ih fun c hc => hb c (by simp [hc])
    obtain ⟨j1, j2, j3⟩ := i1.recv ((hb _ (by simp)).1.peer h.fw.ep i3) (by rw [i2]; exact (hb _ (by simp)).2) h2
    exact ⟨j1, j2.trans i2, fun h0 => (j3 (by rw [i3 h0]; exact h0)).trans (i3 h0)⟩
/-- flights may go -/
theorem Two.less {P Q : List (List UInt8)} {x y : SD} (h : Two P Q x y) {fl : List (Int × List UInt8)} (hf : ∀ z ∈ fl, z ∈ x.fl) : Two P Q ⟨x.e, fl, x.fates, x.sent, x.got, x.resets⟩ y :=
  ⟨⟨h.fw.ep, h.fw.ack0, h.fw.queue, h.fw.gotn, h.fw.got, h.fw.low, h.fw.peer, h.fw.newy, h.fw.newx, fun z hz => h.fw.fl z (hf z hz), h.fw.bk, h.fw.resets⟩,
    ⟨h.fro.ep, h.fro.ack0, h.fro.queue, h.fro.gotn, h.fro.got, h.fro.low, h.fro.peer, h.fro.newy, h.fro.newx, h.fro.fl, fun z hz => h.fro.bk z (hf z hz), h.fro.resets⟩⟩
theorem Two.arrives {P Q : List (List UInt8)} {x y x' y' : SD} {now : Int} (h : Two P Q x y) (hr : Arrives now x y x' y') : Two P Q x' y' := by
  obtain ⟨o1, p1, rfl, r1⟩ := hr
  exact ((h.less fun z hz => (List.mem_filter.1 hz).1).recvAll r1 (due_mem (φ := fun c => DataOK P x.e.epoch y.e.peer c ∧ AckOK y.e.epoch x.e.got c) (fun z hz => ⟨h.fw.fl z hz, h.fro.bk z hz⟩) p1)).1
theorem Two.exch {P Q : List (List UInt8)} {a b a' b' : SD} {now : Int} {m n : Nat} (h : Two P Q a b) (ha : a.LS m n) (hb : b.LS m n) (hx : Exch now a b a' b') : Two P Q a' b' := by
  obtain ⟨a2, b2, h1, h2⟩ := hx
  have k1 := h.poll ha.e.cons ha.e.got.1 ha.fates now
  have k2 := k1.symm.poll hb.e.cons hb.e.got.1 hb.fates now
  exact (k2.symm.arrives h1).symm.arrives h2 |>.symm
theorem Two.push {P Q : List (List UInt8)} {a b : SD} (h : Two P Q a b) (c : List UInt8) : Two (P ++ [c]) Q (a.push c) b := by
  have hn := h.fw.gotn
  have h0 := h.fw.ack0
  have hl := h.fw.low
  refine ⟨⟨h.fw.ep, h.fw.ack0, ?_, by rw [List.length_append]; omega, ?_, h.fw.low, h.fw.peer, h.fw.newy, h.fw.newx, fun z hz p hp => ?_, h.fw.bk, h.fw.resets⟩, ⟨h.fro.ep, h.fro.ack0, h.fro.queue, h.fro.gotn, h.fro.got, h.fro.low, h.fro.peer, h.fro.newy, h.fro.newx, h.fro.fl, h.fro.bk, h.fro.resets⟩⟩
  · show a.e.queue ++ [c] = (P ++ [c]).drop a.e.acked.toNat
    rw [h.fw.queue, List.drop_append_of_le_length (by omega)]
  · rw [List.take_append_of_le_length (by omega)]
    exact h.fw.got
  · rcases h.fw.fl z hz p hp with q | ⟨q1, q2⟩
    · exact .inl q
    · refine .inr ⟨q1, fun hk => ⟨(q2 hk).1, ?_⟩⟩
      have h2 := (q2 hk).2
      obtain ⟨hlt, _⟩ := List.getElem?_eq_some_iff.1 h2
      rw [List.getElem?_append_left hlt]
      exact h2
/-- all is delivered once the queue is empty -/
theorem Dir.done {P : List (List UInt8)} {x y : SD} (h : Dir P x y) (hq : x.e.queue = []) : y.got = P.flatten := by
  have h1 := h.queue
  rw [hq] at h1
  have h2 : P.length ≤ x.e.acked.toNat := List.drop_eq_nil_iff.1 h1.symm
  have h3 := h.gotn
  have h4 := h.low
  have h5 := h.ack0
  rw [h.got, List.take_of_length_le (by omega)]
theorem Two.new {n m : Int} (fa fb : List Fate) (hn : 1 ≤ n) (hm : 1 ≤ m) : Two [] [] ⟨newE n, [], fa, 0, [], 0⟩ ⟨newE m, [], fb, 0, [], 0⟩ :=
  ⟨⟨hn, by simp [newE], by simp [newE], by simp [newE], by simp, by simp [newE], .inl rfl, fun _ => rfl, fun _ => ⟨rfl, rfl⟩, by simp, by simp, rfl⟩,
    ⟨hm, by simp [newE], by simp [newE], by simp [newE], by simp, by simp [newE], .inl rfl, fun _ => rfl, fun _ => ⟨rfl, rfl⟩, by simp, by simp, rfl⟩⟩

theorem recv1_owe (e : EP) (p : Pkt) : (recv1 e p).1.owe = e.owe := by
  unfold recv1; split <;> rfl
theorem recv2_owe (e : EP) (p : Pkt) : (recv2 e p).owe = e.owe := by
  unfold recv2; split <;> rfl
theorem recv3_owe (e : EP) (p : Pkt) (h : e.owe = true) : (recv3 e p).1.owe = true := by
  unfold recv3
  split
  · split <;> rfl
  · split
    · rfl
    · exact h
theorem recvF_owe (e : EP) (p : Pkt) (er : Int) (h : e.owe = true) : (recvF e p er).1.owe = true := by
  unfold recvF
  split
  · exact h
  · split
    · rfl
    · exact recv3_owe _ _ (by rw [recv2_owe, recv1_owe]; exact h)
theorem RecvAll.owe {y y' : SD} {l : List (List UInt8)} (hr : RecvAll y l y') (h : y.e.owe = true) : y'.e.owe = true := by
  induction hr with
  | nil => exact h
  | snoc h1 h2 ih =>
    obtain ⟨p, er, _, rfl⟩ := h2
    exact recvF_owe _ _ _ ih
theorem RecvAll.sent {y y' : SD} {l : List (List UInt8)} (hr : RecvAll y l y') : y'.sent = y.sent ∧ y'.fl = y.fl ∧ y'.fates = y.fates := by
  induction hr with
  | nil => exact ⟨rfl, rfl, rfl⟩
  | snoc h1 h2 ih =>
    obtain ⟨p, er, _, rfl⟩ := h2
    exact ih
theorem recv3_same (e : EP) (p : Pkt) : (recv3 e p).1.peer = e.peer ∧ (recv3 e p).1.acked = e.acked ∧ (recv3 e p).1.sent = e.sent ∧ (recv3 e p).1.timer = e.timer ∧ (recv3 e p).1.queue = e.queue ∧ e.got ≤ (recv3 e p).1.got := by
  unfold recv3
  split
  · split
    · exact ⟨rfl, rfl, rfl, rfl, rfl, by show e.got ≤ e.got + 1; omega⟩
    · exact ⟨rfl, rfl, rfl, rfl, rfl, Int.le_refl _⟩
  · split <;> exact ⟨rfl, rfl, rfl, rfl, rfl, Int.le_refl _⟩
theorem recv2_mono (e : EP) (p : Pkt) : (recv2 e p).peer = e.peer ∧ (recv2 e p).got = e.got ∧ e.acked ≤ (recv2 e p).acked ∧ ((recv2 e p).acked = e.acked → (recv2 e p).sent = e.sent ∧ (recv2 e p).timer = e.timer ∧ (recv2 e p).queue = e.queue) := by
  unfold recv2
  split
  · rename_i h
    exact ⟨rfl, rfl, by show e.acked ≤ p.ack; omega, fun k => by have k' : p.ack = e.acked := k; omega⟩
  · exact ⟨rfl, rfl, Int.le_refl _, fun _ => ⟨rfl, rfl, rfl⟩⟩
/-- nothing goes back -/
theorem recvF_mono {e : EP} {p : Pkt} {er : Int} (h0 : e.peer < p.src → e.peer = 0) (ha : e.peer = 0 → e.acked = 0 ∧ e.got = 0) (hs : 1 ≤ p.src) :
    e.got ≤ (recvF e p er).1.got ∧ e.acked ≤ (recvF e p er).1.acked ∧ (e.peer ≠ 0 → (recvF e p er).1.peer = e.peer) ∧
      ((recvF e p er).1.acked = e.acked → (recvF e p er).1.peer = e.peer → (recvF e p er).1.sent = e.sent ∧ (recvF e p er).1.timer = e.timer ∧ (recvF e p er).1.queue = e.queue) := by
  have h1 : e.got = (recv1 e p).1.got ∧ e.acked = (recv1 e p).1.acked ∧ (e.peer ≠ 0 → (recv1 e p).1.peer = e.peer) ∧ ((recv1 e p).1.peer = e.peer → (recv1 e p).1 = e) := by
    unfold recv1
    split
    · rename_i hlt
      have hp := h0 hlt
      exact ⟨(ha hp).2, (ha hp).1, fun h => absurd hp h, fun h => by have h' : p.src = e.peer := h; omega⟩
    · exact ⟨rfl, rfl, fun _ => rfl, fun _ => rfl⟩
  obtain ⟨a1, a2, a3, a4⟩ := h1
  unfold recvF
  split
  · exact ⟨Int.le_refl _, Int.le_refl _, fun _ => rfl, fun _ _ => ⟨rfl, rfl, rfl⟩⟩
  · split
    · refine ⟨by show e.got ≤ (recv1 e p).1.got; omega, by show e.acked ≤ (recv1 e p).1.acked; omega, a3, fun _ hp => ?_⟩
      have := a4 hp
      exact ⟨by show (recv1 e p).1.sent = _; rw [this], by show (recv1 e p).1.timer = _; rw [this], by show (recv1 e p).1.queue = _; rw [this]⟩
    · obtain ⟨b1, b2, b3, b4⟩ := recv2_mono (recv1 e p).1 p
      obtain ⟨c1, c2, c3, c4, c5, c6⟩ := recv3_same (recv2 (recv1 e p).1 p) p
      refine ⟨by show e.got ≤ (recv3 _ p).1.got; omega, by show e.acked ≤ (recv3 _ p).1.acked; omega, fun h => by show (recv3 _ p).1.peer = _; rw [c1, b1]; exact a3 h, fun hk hp => ?_⟩
      have hk' : (recv3 (recv2 (recv1 e p).1 p) p).1.acked = e.acked := hk
      have hp' : (recv3 (recv2 (recv1 e p).1 p) p).1.peer = e.peer := hp
      rw [c2] at hk'
      rw [c1, b1] at hp'
      have h5 := a4 hp'
      obtain ⟨d1, d2, d3⟩ := b4 (by omega)
      exact ⟨by show (recv3 _ p).1.sent = _; rw [c3, d1, h5], by show (recv3 _ p).1.timer = _; rw [c4, d2, h5], by show (recv3 _ p).1.queue = _; rw [c5, d3, h5]⟩
theorem Two.recv_mono {P Q : List (List UInt8)} {x y y' : SD} (h : Two P Q x y) {c : List UInt8} (hd : DataOK P x.e.epoch y.e.peer c) (hr : RecvStep y c y') :
    y.e.got ≤ y'.e.got ∧ y.e.acked ≤ y'.e.acked ∧ (y.e.peer ≠ 0 → y'.e.peer = y.e.peer) ∧ (y'.e.acked = y.e.acked → y'.e.peer = y.e.peer → y'.e.sent = y.e.sent ∧ y'.e.timer = y.e.timer ∧ y'.e.queue = y.e.queue) := by
  obtain ⟨p, er, hdec, rfl⟩ := hr
  by_cases hne : ¬ (er ≠ 0 ∨ p.src < y.e.peer)
  · obtain rfl : er = 0 := Classical.byContradiction fun h => hne (.inl h)
    have hs : p.src = x.e.epoch := by
      rcases hd p hdec with ⟨q1, q2⟩ | q
      · exact absurd (.inr (by omega)) hne
      · exact q.1
    have hep := h.fw.ep
    exact recvF_mono (fun hlt => by rcases h.fw.peer with e | e <;> omega) (fun hp => ⟨(h.fro.newx hp).1, h.fw.newy hp⟩) (by omega)
  · have hre : recvF y.e p er = (y.e, [], false) := by unfold recvF; rw [if_pos (Classical.byContradiction hne)]
    show y.e.got ≤ (recvF y.e p er).1.got ∧ y.e.acked ≤ (recvF y.e p er).1.acked ∧ (y.e.peer ≠ 0 → (recvF y.e p er).1.peer = y.e.peer) ∧ ((recvF y.e p er).1.acked = y.e.acked → (recvF y.e p er).1.peer = y.e.peer → (recvF y.e p er).1.sent = y.e.sent ∧ (recvF y.e p er).1.timer = y.e.timer ∧ (recvF y.e p er).1.queue = y.e.queue)
    rw [hre]
    exact ⟨Int.le_refl _, Int.le_refl _, fun _ => rfl, fun _ _ => ⟨rfl, rfl, rfl⟩⟩
theorem Two.all_mono {P Q : List (List UInt8)} {x y y' : SD} {l : List (List UInt8)} (h : Two P Q x y) (hr : RecvAll y l y') : (∀ c ∈ l, DataOK P x.e.epoch y.e.peer c ∧ AckOK y.e.epoch x.e.got c) →
    y.e.got ≤ y'.e.got ∧ y.e.acked ≤ y'.e.acked ∧ (y.e.peer ≠ 0 → y'.e.peer = y.e.peer) ∧ (y'.e.acked = y.e.acked → (y.e.peer = 0 → y'.e.peer = 0) → y'.e.sent = y.e.sent ∧ y'.e.timer = y.e.timer ∧ y'.e.queue = y.e.queue) := by
  induction hr with
  | nil => intro _; exact ⟨Int.le_refl _, Int.le_refl _, fun _ => rfl, fun _ _ => ⟨rfl, rfl, rfl⟩⟩
  | @snoc s1 s2 l b h1 h2 ih =>
    intro hb
    have hb' : ∀ c ∈ l, DataOK P x.e.epoch y.e.peer c ∧ AckOK y.e.epoch x.e.got c := fun c hc => hb c (by simp [hc])
    obtain ⟨i1, i2, i3, i4⟩ := ih hb'
    obtain ⟨k1, k2, k3⟩ := h.recvAll h1 hb'
    obtain ⟨j1, j2, j3, j4⟩ := k1.recv_mono ((hb b (by simp)).1.peer h.fw.ep k3) h2
    refine ⟨by omega, by omega, fun hp => ?_, fun ha hp => ?_⟩
    · have e := i3 hp
      rw [← e]
      exact j3 (by rw [e]; exact hp)
    · have e0 : y.e.peer = 0 → s1.e.peer = 0 := fun h0 => Classical.byContradiction fun hn => by have := j3 hn; have := hp h0; omega
      have e1 : s2.e.peer = s1.e.peer := by
        by_cases h0 : s1.e.peer = 0
        · by_cases hy : y.e.peer = 0
          · rw [h0]; exact hp hy
          · exact absurd h0 (by rw [i3 hy]; exact hy)
        · exact j3 h0
      obtain ⟨a1, a2, a3⟩ := i4 (by omega) e0
      obtain ⟨b1, b2, b3⟩ := j4 (by omega) e1
      exact ⟨b1.trans a1, b2.trans a2, b3.trans a3⟩
/-- what an end sends may be encoded -/
theorem right_of {k s d q a : Int} {b : List UInt8} (hk : 1 ≤ k ∧ k ≤ 3) (hs : 1 ≤ s ∧ s ≤ 20) (hd : 0 ≤ d ∧ d ≤ 20) (hq : 0 ≤ q ∧ q ≤ 1000) (ha : 0 ≤ a ∧ a ≤ 1000) (hb : b.length ≤ 10) (h2 : k = 2 → 1 ≤ q) (h3 : k ≠ 2 → q = 0 ∧ b.length = 0) : rightP ⟨k, s, d, q, a, b⟩ := by
  refine ⟨fun h => ?_, fun i hi => ?_, h2, h3⟩
  · rcases h with h | h | h | h
    · have h' : k < 1 := h; omega
    · have h' : 3 < k := h; omega
    · have h' : s < 1 := h; omega
    · have h' : 6000 < b.length := h; omega
  · match i, hi with
    | 0, _ => exact ⟨by show 0 ≤ s; omega, by show s ≤ _; omega⟩
    | 1, _ => exact ⟨by show 0 ≤ d; omega, by show d ≤ _; omega⟩
    | 2, _ => exact ⟨by show 0 ≤ q; omega, by show q ≤ _; omega⟩
    | 3, _ => exact ⟨by show 0 ≤ a; omega, by show a ≤ _; omega⟩
theorem sendF_old {out : List (List UInt8)} {p : Pkt} {b : List UInt8} (h : b ∈ out) : b ∈ sendF out p := by
  unfold sendF
  split
  · exact List.mem_append_left _ h
  · exact h
theorem sendF_new {out : List (List UInt8)} {p : Pkt} (h : rightP p) : encP p ∈ sendF out p := by
  unfold sendF
  rw [if_pos h]
  simp
theorem outsL_first {e : EP} {s0 : Int} (h : rightP (dataP e s0 0)) : ∀ k, 1 ≤ k → encP (dataP e s0 0) ∈ outsL e s0 k
  | 0, hk => by omega
  | 1, _ => by rw [outsL]; exact sendF_new h
  | k + 2, _ => by rw [outsL]; exact sendF_old (outsL_first h (k + 1) (by omega))
/-- who owes, answers -/
theorem pollF_owe {e : EP} (h : e.LS) (now : Int) (hp : e.peer ≠ 0) (ho : e.owe = true) : ∃ p, rightP p ∧ encP p ∈ (pollF e now).2 ∧ p.src = e.epoch ∧ p.dst = e.peer ∧ p.ack = e.got := by
  show ∃ p, rightP p ∧ encP p ∈ (pollM e now).2 ∧ p.src = e.epoch ∧ p.dst = e.peer ∧ p.ack = e.got
  unfold pollM
  rw [if_neg hp]
  simp only
  split
  · have hr : rightP ⟨3, e.epoch, e.peer, 0, e.got, []⟩ := right_of (by omega) h.epoch h.peer (by omega) h.got (by simp) (by omega) (fun _ => ⟨rfl, rfl⟩)
    exact ⟨_, hr, sendF_new hr, rfl, rfl, rfl⟩
  · rename_i hn
    have hl : (outsL e (e.first now) (min 4 e.queue.length - (e.first now - e.acked).toNat)).length ≠ 0 := fun h0 => hn ⟨h0, ho⟩
    obtain ⟨b, hb⟩ := List.exists_mem_of_length_pos (Nat.pos_of_ne_zero hl)
    obtain ⟨j, hj, hr, rfl⟩ := outsL_mem hb
    exact ⟨_, hr, hb, rfl, rfl, rfl⟩
/-- all that the window allows is sent -/
def EP.full (e : EP) : Prop := e.peer = 0 ∨ e.sent = e.acked + (min 4 e.queue.length : Nat)
theorem pollF_full {e : EP} (h : e.LS) (now : Int) (hw : e.sent ≤ e.acked + (min 4 e.queue.length : Nat)) : (pollF e now).1.full := by
  show (pollM e now).1.peer = 0 ∨ (pollM e now).1.sent = (pollM e now).1.acked + (min 4 (pollM e now).1.queue.length : Nat)
  unfold pollM
  split
  · rename_i hp
    split <;> exact .inl hp
  · obtain ⟨f1, f2, f3⟩ := first_cases e now h.cons
    refine .inr ?_
    show e.first now + ((min 4 e.queue.length - (e.first now - e.acked).toNat : Nat) : Int) = e.acked + (min 4 e.queue.length : Nat)
    omega
/-- who is not done and has waited, sends what matters -/
theorem pollF_try {e : EP} (h : e.LS) {now : Int} (hnd : e.peer = 0 ∨ e.queue ≠ []) (ht : e.timer ≤ now) (hf : e.full) :
    ∃ p, rightP p ∧ encP p ∈ (pollF e now).2 ∧ p.src = e.epoch ∧ ((p.kind = 1 ∧ p.dst = 0 ∧ e.peer = 0) ∨ (p.kind = 2 ∧ p.dst = e.peer ∧ p.seq = e.acked + 1 ∧ e.peer ≠ 0)) := by
  show ∃ p, rightP p ∧ encP p ∈ (pollM e now).2 ∧ _
  have hep := h.epoch
  unfold pollM
  by_cases hp : e.peer = 0
  · rw [if_pos hp, if_pos ht]
    have hr : rightP ⟨1, e.epoch, 0, 0, 0, []⟩ := right_of (by omega) h.epoch (by omega) (by omega) (by omega) (by simp) (by omega) (fun _ => ⟨rfl, rfl⟩)
    exact ⟨_, hr, sendF_new hr, rfl, .inl ⟨rfl, rfl, hp⟩⟩
  · rw [if_neg hp]
    have hq : e.queue ≠ [] := hnd.resolve_left hp
    have hl : 0 < e.queue.length := List.length_pos_iff.2 hq
    have hs := hf.resolve_left hp
    have hfi : e.first now = e.acked := by unfold EP.first; rw [if_pos ⟨by omega, ht⟩]
    have hc := h.cons.1
    have hall := h.all
    have hb0 : e.queue[(e.acked - e.acked).toNat + 0]? = some e.queue[0] := by
      rw [show (e.acked - e.acked).toNat + 0 = 0 by omega]; exact List.getElem?_eq_getElem hl
    have hr : rightP (dataP e e.acked 0) := by
      refine right_of (by omega) h.epoch h.peer (by omega) h.got ?_ (by omega) (fun h => absurd rfl h)
      rw [hb0]
      exact h.bodies _ (List.getElem_mem _)
    have hm : encP (dataP e e.acked 0) ∈ outsL e (e.first now) (min 4 e.queue.length - (e.first now - e.acked).toNat) := by
      rw [hfi]; exact outsL_first hr _ (by omega)
    refine ⟨_, hr, ?_, rfl, .inr ⟨rfl, rfl, by show e.acked + ((0 : Nat) : Int) + 1 = _; omega, hp⟩⟩
    simp only
    split
    · exact sendF_old hm
    · exact hm
theorem damaged_fate1 (b : List UInt8) : damagedL b fate1 = b := by
  apply List.ext_getElem?
  intro i
  have h : ∀ c, dmgB fate1 i c = c := fun c => by
    have h1 : hiM fate1 = 0 := rfl
    have h2 : loM fate1 = 0 := rfl
    unfold dmgB dmgA
    rw [h1, h2]
    split <;> split <;> simp
  unfold damagedL
  rw [List.getElem?_mapIdx]
  cases b[i]? with
  | none => rfl
  | some c => simp [h]
theorem sendAll_keep (now : Int) (l : List (List UInt8)) : ∀ (s : SD) (z : Int × List UInt8), z ∈ s.fl → z ∈ (sendAll now s l).fl := by
  induction l with
  | nil => intro s z h; exact h
  | cons b l ih => intro s z h; exact ih (sendOne now s b) z (List.mem_append_left _ h)
/-- behind the listed fates every datagram arrives whole at the next tick -/
theorem sendAll_good (now : Int) (l : List (List UInt8)) : ∀ (s : SD), (s.fates.length : Int) ≤ s.sent → ∀ b ∈ l, (now + 1, b) ∈ (sendAll now s l).fl := by
  induction l with
  | nil => intro s _ b hb; simp at hb
  | cons c l ih =>
    intro s hs b hb
    rcases List.mem_cons.1 hb with rfl | hb
    · refine sendAll_keep now l (sendOne now s b) _ (List.mem_append_right _ ?_)
      rw [fateOf_none (by omega)]
      refine List.mem_map.2 ⟨1, by simp [fate1], ?_⟩
      rw [damaged_fate1]
      rfl
    · exact ih (sendOne now s c) (by show (s.fates.length : Int) ≤ s.sent + 1; omega) b hb

theorem DecIs.src0 {c : List UInt8} {p : Pkt} (h : DecIs c p 0) : 1 ≤ p.src := (h.right.nums).1.1
/-- what a packet of x brings about at y -/
structure Tookp (p : Pkt) (ep g : Int) (y' : SD) : Prop where
  peer : y'.e.peer ≠ 0
  owe : (p.kind = 1 ∨ p.kind = 2) → y'.e.owe = true
  ack : p.dst = ep → p.ack ≤ y'.e.acked
  data : p.dst = ep → p.kind = 2 → p.seq ≤ g + 1 → p.seq ≤ y'.e.got
theorem Two.took {P Q : List (List UInt8)} {x y y' : SD} (h : Two P Q x y) {c : List UInt8} (hd : DataOK P x.e.epoch y.e.peer c) (ha : AckOK y.e.epoch x.e.got c) (hr : RecvStep y c y') {p : Pkt} (hp : DecIs c p 0) (hs : p.src = x.e.epoch) : Tookp p y.e.epoch y.e.got y' := by
  obtain ⟨q, er, hdec, rfl⟩ := hr
  obtain ⟨rfl, rfl⟩ := hp.one hdec
  have hk : p.kind = 2 → 1 ≤ p.seq ∧ P[(p.seq - 1).toNat]? = some p.body := by
    rcases hd p hp with ⟨q1, _⟩ | q
    · omega
    · exact q.2
  have hep := h.fw.ep
  have hq := h.fro.queue
  have hgn := h.fro.gotn
  have hlow := h.fro.low
  have hac := h.fro.ack0
  have hns : ¬ p.src < y.e.peer := by rcases h.fw.peer with e | e <;> omega
  have h1 : (recv1 y.e p).1.epoch = y.e.epoch ∧ (recv1 y.e p).1.peer = p.src ∧ (recv1 y.e p).1.acked = y.e.acked ∧ (recv1 y.e p).1.got = y.e.got ∧ (recv1 y.e p).1.queue = y.e.queue := by
    unfold recv1
    split
    · rename_i hlt
      have hp0 : y.e.peer = 0 := by rcases h.fw.peer with e | e <;> omega
      exact ⟨rfl, rfl, (h.fro.newx hp0).1.symm, (h.fw.newy hp0).symm, by simp [hp0]⟩
    · exact ⟨rfl, by show y.e.peer = p.src; rcases h.fw.peer with e | e <;> omega, rfl, rfl, rfl⟩
  obtain ⟨x1, x2, x3, x4, x5⟩ := h1
  obtain ⟨b1, b2, b3, b4⟩ := recv2_mono (recv1 y.e p).1 p
  obtain ⟨c1, c2, c3, c4, c5, c6⟩ := recv3_same (recv2 (recv1 y.e p).1 p) p
  have hF : recvF y.e p 0 = if p.dst ≠ y.e.epoch then ((recv1 y.e p).1.owes, [], (recv1 y.e p).2) else ((recv3 (recv2 (recv1 y.e p).1 p) p).1, (recv3 (recv2 (recv1 y.e p).1 p) p).2, (recv1 y.e p).2) := by
    unfold recvF
    rw [if_neg (by rintro (h | h); exact h rfl; exact hns h)]
  refine ⟨?_, fun hk => ?_, fun hdst => ?_, fun hdst hk2 hsq => ?_⟩
  · show (recvF y.e p 0).1.peer ≠ 0
    rw [hF]
    split
    · show (recv1 y.e p).1.peer ≠ 0; omega
    · show (recv3 _ p).1.peer ≠ 0; rw [c1, b1]; omega
  · show (recvF y.e p 0).1.owe = true
    rw [hF]
    split
    · rfl
    · show (recv3 _ p).1.owe = true
      unfold recv3
      rcases hk with e | e
      · rw [if_neg (by omega), if_pos e]; rfl
      · rw [if_pos e]; split <;> rfl
  · show p.ack ≤ (recvF y.e p 0).1.acked
    rw [hF, if_neg (by simpa using hdst)]
    show p.ack ≤ (recv3 _ p).1.acked
    rw [c2]
    unfold recv2
    split
    · exact Int.le_refl _
    · rename_i hn
      have hlen : (recv1 y.e p).1.queue.length = Q.length - y.e.acked.toNat := by rw [x5, hq, List.length_drop]
      have hak := ha p hp hdst
      rw [x3] at hn ⊢
      omega
  · show p.seq ≤ (recvF y.e p 0).1.got
    rw [hF, if_neg (by simpa using hdst)]
    show p.seq ≤ (recv3 _ p).1.got
    unfold recv3
    rw [if_pos hk2]
    split
    · rename_i he
      show p.seq ≤ (recv2 _ p).got + 1
      omega
    · rename_i he
      show p.seq ≤ (recv2 _ p).got
      rw [b2, x4] at *
      omega

theorem enc_dec {p : Pkt} (h : rightP p) : DecIs (encP p) p 0 := by
  have hl := enc_len h
  obtain ⟨ho, hk⟩ := own_ok h
  exact .inr (.inr ⟨hl.2, by omega, enc_crc p, .inl ⟨by rw [enc_cut]; exact ho, by rw [enc_cut, hk]; exact h, by rw [enc_cut, hk], rfl⟩⟩)
theorem Two.all_took {P Q : List (List UInt8)} {x y y' : SD} {l : List (List UInt8)} (h : Two P Q x y) (hr : RecvAll y l y') {c : List UInt8} {p : Pkt} (hp : DecIs c p 0) (hs : p.src = x.e.epoch) : (∀ c ∈ l, DataOK P x.e.epoch y.e.peer c ∧ AckOK y.e.epoch x.e.got c) → c ∈ l → Tookp p y.e.epoch y.e.got y' := by
  induction hr with
  | nil => intro _ hc; simp at hc
  | @snoc s1 s2 l b h1 h2 ih =>
    intro hb hc
    have hb' : ∀ c ∈ l, DataOK P x.e.epoch y.e.peer c ∧ AckOK y.e.epoch x.e.got c := fun c hc => hb c (by simp [hc])
    obtain ⟨k1, k2, k3⟩ := h.recvAll h1 hb'
    have hd := (hb b (by simp)).1.peer h.fw.ep k3
    have ha : AckOK s1.e.epoch x.e.got b := by rw [k2]; exact (hb b (by simp)).2
    obtain ⟨g1, g2, g3, _⟩ := h.all_mono h1 hb'
    obtain ⟨m1, m2, m3, _⟩ := k1.recv_mono hd h2
    rcases List.mem_append.1 hc with hc | hc
    · obtain ⟨t1, t2, t3, t4⟩ := ih hb' hc
      refine ⟨by rw [m3 t1]; exact t1, fun hk => ?_, fun hd => by have := t3 hd; omega, fun a b c => by have := t4 a b c; omega⟩
      obtain ⟨q, er, _, rfl⟩ := h2
      exact recvF_owe _ _ _ (t2 hk)
    · obtain rfl : c = b := by simpa using hc
      obtain ⟨t1, t2, t3, t4⟩ := k1.took hd ha h2 hp hs
      rw [k2] at t3 t4
      exact ⟨t1, t2, t3, fun a b c => t4 a b (by omega)⟩
/-- what has become of y's endpoint once what is due of x has arrived -/
structure Half (now : Int) (x y y' : SD) : Prop where
  epoch : y'.e.epoch = y.e.epoch
  got : y.e.got ≤ y'.e.got
  acked : y.e.acked ≤ y'.e.acked
  peer : y.e.peer ≠ 0 → y'.e.peer = y.e.peer
  still : y'.e.acked = y.e.acked → (y.e.peer = 0 → y'.e.peer = 0) → y'.e.sent = (pollF y.e now).1.sent ∧ y'.e.timer = (pollF y.e now).1.timer ∧ y'.e.queue = y.e.queue
  owe : (pollF y.e now).1.owe = true → y'.e.owe = true
  took : ∀ p d, (d, encP p) ∈ (pollS now x).fl → d ≤ now → rightP p → p.src = x.e.epoch → Tookp p y.e.epoch y.e.got y'
theorem half_core {P Q : List (List UInt8)} {x1 y0 y1 x y y' : SD} {l : List (List UInt8)} {now : Int} (h : Two P Q x1 y0) (he : y0.e = (pollF y.e now).1) (hx1 : x1.e.epoch = x.e.epoch) (hr : RecvAll y0 l y1) (hy : y'.e = y1.e)
    (hok : ∀ c ∈ l, DataOK P x1.e.epoch y0.e.peer c ∧ AckOK y0.e.epoch x1.e.got c) (hl : ∀ p d, (d, encP p) ∈ (pollS now x).fl → d ≤ now → encP p ∈ l) : Half now x y y' := by
  obtain ⟨h1, h2, h3, h4, h5⟩ := pollF_same (e := y.e) now
  obtain ⟨m1, m2, m3, m4⟩ := h.all_mono hr hok
  obtain ⟨_, q2, _⟩ := h.recvAll hr hok
  rw [he] at m1 m2 m3 m4 q2
  rw [h4] at m1
  rw [h3] at m2
  rw [h2] at m3
  rw [h2, h3, h5] at m4
  rw [h1] at q2
  refine ⟨by rw [hy]; exact q2, by rw [hy]; exact m1, by rw [hy]; exact m2, by rw [hy]; exact m3, by rw [hy]; exact m4, fun ho => ?_, fun p d hm hd hrp hsp => ?_⟩
  · rw [hy]; exact hr.owe (by rw [he]; exact ho)
  · obtain ⟨t1, t2, t3, t4⟩ := h.all_took hr (enc_dec hrp) (by rw [hx1]; exact hsp) hok (hl p d hm hd)
    rw [he, h1] at t3
    rw [he, h1, h4] at t4
    exact ⟨by rw [hy]; exact t1, by rw [hy]; exact t2, by rw [hy]; exact t3, by rw [hy]; exact t4⟩
theorem due_in {fl : List (Int × List UInt8)} {l : List (List UInt8)} {now d : Int} {c : List UInt8} (hp : l.Perm ((fl.filter (fun z => !decide (now < z.1))).map (·.2))) (hm : (d, c) ∈ fl) (hd : d ≤ now) : c ∈ l :=
  hp.mem_iff.2 (List.mem_map.2 ⟨(d, c), List.mem_filter.2 ⟨hm, by simp; omega⟩, rfl⟩)
/-- what is left behind an exchange of what was under way -/
structure Left (now : Int) (y y' : SD) : Prop where
  fl : y'.fl = (pollS now y).fl.filter (fun z => decide (now < z.1))
  sent : y'.sent = (pollS now y).sent
  fates : y'.fates = y.fates
theorem Exch.left {a b a' b' : SD} {now : Int} (hx : Exch now a b a' b') : Left now a a' ∧ Left now b b' := by
  obtain ⟨a2, b2, ⟨oa, pa, rfl, ra⟩, ⟨ob, pb, rfl, rb⟩⟩ := hx
  obtain ⟨a1, a2, a3⟩ := ra.sent
  obtain ⟨b1, b2, b3⟩ := rb.sent
  obtain ⟨_, fa, _⟩ := sendAll_got now (pollF a.e now).2 (a.setE (pollF a.e now).1)
  obtain ⟨_, fb, _⟩ := sendAll_got now (pollF b.e now).2 (b.setE (pollF b.e now).1)
  exact ⟨⟨b2, b1, b3.trans fa⟩, ⟨by rw [a2], a1, a3.trans fb⟩⟩
theorem Two.half {P Q : List (List UInt8)} {a b a' b' : SD} {now : Int} {m n : Nat} (h : Two P Q a b) (ha : a.LS m n) (hb : b.LS m n) (hx : Exch now a b a' b') : Half now a b b' ∧ Half now b a a' := by
  obtain ⟨a2, b2, ⟨oa, pa, rfl, ra⟩, ⟨ob, pb, rfl, rb⟩⟩ := hx
  have k1 := h.poll ha.e.cons ha.e.got.1 ha.fates now
  have k2 := (k1.symm.poll hb.e.cons hb.e.got.1 hb.fates now).symm
  have oka := due_mem (φ := fun c => DataOK P (pollS now a).e.epoch (pollS now b).e.peer c ∧ AckOK (pollS now b).e.epoch (pollS now a).e.got c) (fun z hz => ⟨k2.fw.fl z hz, k2.fro.bk z hz⟩) pa
  have k3 := k2.less (fl := (pollS now a).fl.filter (fun z => decide (now < z.1))) fun z hz => (List.mem_filter.1 hz).1
  obtain ⟨k4, k5, k6⟩ := k3.recvAll ra oka
  have okb := due_mem (φ := fun c => DataOK Q b2.e.epoch (pollS now a).e.peer c ∧ AckOK (pollS now a).e.epoch b2.e.got c) (fun z hz => ⟨k4.fro.fl z hz, k4.fw.bk z hz⟩) pb
  have eb := pollS_e now b
  have ea := pollS_e now a
  obtain ⟨_, f2, _⟩ := ra.sent
  refine ⟨half_core k2 eb (by rw [ea]; exact (pollF_same now).1) ra rfl oka (fun p d hm hd => due_in pa hm hd), half_core k4.symm (y0 := ⟨(pollS now a).e, _, _, _, _, _⟩) ea ?_ rb rfl okb (fun p d hm hd => due_in pb (by rw [f2]; exact hm) hd)⟩
  rw [k5, eb]
  exact (pollF_same now).1
/-! the window, the timer, the times of the flights -/
structure Tk (now : Int) (s : SD) : Prop where
  win : s.e.sent - s.e.acked ≤ 4
  timer : s.e.timer ≤ now + 8
  lo : ∀ z ∈ s.fl, now ≤ z.1
  hi : ∀ z ∈ s.fl, z.1 ≤ now + 99
theorem recvF_win {e : EP} {p : Pkt} {er : Int} {T : Int} (hT : 0 ≤ T) (hw : e.sent - e.acked ≤ 4) (ht : e.timer ≤ T) : (recvF e p er).1.sent - (recvF e p er).1.acked ≤ 4 ∧ (recvF e p er).1.timer ≤ T := by
  have h1 : (recv1 e p).1.sent - (recv1 e p).1.acked ≤ 4 ∧ (recv1 e p).1.timer ≤ T := by
    unfold recv1
    split
    · exact ⟨by show (0 : Int) - 0 ≤ 4; omega, hT⟩
    · exact ⟨hw, ht⟩
  unfold recvF
  split
  · exact ⟨hw, ht⟩
  · split
    · exact h1
    · obtain ⟨c1, c2, c3, c4, c5, c6⟩ := recv3_same (recv2 (recv1 e p).1 p) p
      show (recv3 _ p).1.sent - (recv3 _ p).1.acked ≤ 4 ∧ (recv3 _ p).1.timer ≤ T
      rw [c2, c3, c4]
      unfold recv2
      split
      · rename_i h
        refine ⟨?_, h1.2⟩
        show max (recv1 e p).1.sent p.ack - p.ack ≤ 4
        omega
      · exact h1
theorem RecvAll.win {y y' : SD} {l : List (List UInt8)} {T : Int} (hr : RecvAll y l y') (hT : 0 ≤ T) (hw : y.e.sent - y.e.acked ≤ 4) (ht : y.e.timer ≤ T) : y'.e.sent - y'.e.acked ≤ 4 ∧ y'.e.timer ≤ T := by
  induction hr with
  | nil => exact ⟨hw, ht⟩
  | snoc h1 h2 ih =>
    obtain ⟨q, er, _, rfl⟩ := h2
    exact recvF_win hT ih.1 ih.2
theorem pollF_timer (e : EP) (now : Int) (h : e.timer ≤ now + 8) : (pollF e now).1.timer ≤ now + 8 := by
  show (pollM e now).1.timer ≤ now + 8
  unfold pollM
  split
  · split
    · exact Int.le_refl _
    · exact h
  · show (if _ then _ else _) ≤ now + 8
    split
    · exact h
    · exact Int.le_refl _
theorem sendAll_due (now : Int) (l : List (List UInt8)) : ∀ (s : SD) (z : Int × List UInt8), z ∈ (sendAll now s l).fl → z ∈ s.fl ∨ (now + 1 ≤ z.1 ∧ z.1 ≤ now + 100 ∧ l ≠ []) := by
  induction l with
  | nil => intro s z hz; exact .inl hz
  | cons b l ih =>
    intro s z hz
    rcases ih (sendOne now s b) z hz with hz | hz
    · rcases List.mem_append.1 hz with hz | hz
      · exact .inl hz
      · obtain ⟨_, h1, h2, _⟩ := sentL_mem hz
        exact .inr ⟨h1, h2, by simp⟩
    · exact .inr ⟨hz.1, hz.2.1, by simp⟩
theorem Left.times {now : Int} {y y' : SD} (h : Left now y y') (ht : ∀ z ∈ y.fl, z.1 ≤ now + 99) : (∀ z ∈ y'.fl, now + 1 ≤ z.1) ∧ ∀ z ∈ y'.fl, z.1 ≤ now + 1 + 99 := by
  refine ⟨fun z hz => ?_, fun z hz => ?_⟩
  · rw [h.fl] at hz
    have := (List.mem_filter.1 hz).2
    simp at this
    omega
  · rw [h.fl] at hz
    rcases sendAll_due now _ (y.setE _) z (List.mem_filter.1 hz).1 with hz | hz
    · have := ht z hz
      omega
    · omega
theorem Exch.tk {a b a' b' : SD} {now : Int} {m n : Nat} (hn : 0 ≤ now) (ha : Tk now a) (hb : Tk now b) (la : a.LS m n) (lb : b.LS m n) (hx : Exch now a b a' b') : Tk (now + 1) a' ∧ Tk (now + 1) b' := by
  obtain ⟨l1, l2⟩ := hx.left
  obtain ⟨u1, u2⟩ := l1.times ha.hi
  obtain ⟨v1, v2⟩ := l2.times hb.hi
  obtain ⟨a2, b2, ⟨oa, pa, rfl, ra⟩, ⟨ob, pb, rfl, rb⟩⟩ := hx
  have wa := (pollF_sent now la.e.cons ha.win).1
  have wb := (pollF_sent now lb.e.cons hb.win).1
  have ta := pollF_timer a.e now ha.timer
  have tb := pollF_timer b.e now hb.timer
  obtain ⟨r1, r2⟩ := ra.win (T := now + 8) (by omega) (by rw [pollS_e]; exact wb) (by rw [pollS_e]; exact tb)
  obtain ⟨s1, s2⟩ := rb.win (T := now + 8) (by omega) (by show (pollS now a).e.sent - (pollS now a).e.acked ≤ 4; rw [pollS_e]; exact wa) (by show (pollS now a).e.timer ≤ _; rw [pollS_e]; exact ta)
  exact ⟨⟨s1, by omega, u1, u2⟩, ⟨r1, by show b2.e.timer ≤ _; omega, v1, v2⟩⟩

def knows (e : EP) : Int := if e.peer = 0 then 0 else 1
def GG (a b : SD) : Int := min a.sent 60 + min b.sent 60 + a.e.acked + b.e.acked + knows a.e + knows b.e
def EP.waits (e : EP) : Prop := e.peer = 0 ∨ e.queue ≠ []
theorem knows_le {e e' : EP} (h : e.peer ≠ 0 → e'.peer = e.peer) : knows e ≤ knows e' ∧ (knows e' ≤ knows e → e.peer = 0 → e'.peer = 0) := by
  unfold knows
  by_cases h0 : e.peer = 0
  · rw [if_pos h0]
    split
    · exact ⟨by omega, fun _ _ => by assumption⟩
    · exact ⟨by omega, fun h _ => by omega⟩
  · have := h h0
    rw [if_neg h0, if_neg (by omega)]
    exact ⟨by omega, fun _ h => absurd h h0⟩
/-- the phases of an end that waits, x, with the other end, y: c ticks are left at most -/
def Ph (now : Int) (x y : SD) (c : Int) : Prop :=
  (c = 12 ∧ x.e.waits) ∨
  (4 ≤ c ∧ c ≤ 11 ∧ x.e.waits ∧ x.e.full ∧ x.e.timer ≤ now + (c - 4)) ∨
  (c = 3 ∧ ∃ p d, rightP p ∧ (d, encP p) ∈ x.fl ∧ d ≤ now ∧ p.src = x.e.epoch ∧ ((p.kind = 1 ∧ x.e.peer = 0) ∨ (p.kind = 2 ∧ p.seq = x.e.acked + 1 ∧ p.dst = y.e.epoch))) ∨
  (c = 2 ∧ y.e.owe = true ∧ y.e.peer ≠ 0 ∧ (x.e.peer = 0 ∨ x.e.acked < y.e.got)) ∨
  (c = 1 ∧ ∃ p d, rightP p ∧ (d, encP p) ∈ y.fl ∧ d ≤ now ∧ p.src = y.e.epoch ∧ p.dst = x.e.epoch ∧ (x.e.peer = 0 ∨ x.e.acked < p.ack))
theorem Ph.range {now : Int} {x y : SD} {c : Int} (h : Ph now x y c) : 1 ≤ c ∧ c ≤ 12 := by
  rcases h with ⟨h, _⟩ | ⟨h1, h2, _⟩ | ⟨h, _⟩ | ⟨h, _⟩ | ⟨h, _⟩ <;> omega
theorem pollF_wait {e : EP} (hf : e.full) {now : Int} (ht : now < e.timer) : (pollF e now).1.timer = e.timer := by
  show (pollM e now).1.timer = e.timer
  unfold pollM
  split
  · rw [if_neg (by omega)]
  · rename_i hp
    have hs := hf.resolve_left hp
    have hfi : e.first now = e.sent := by unfold EP.first; rw [if_neg (by omega)]
    show (if _ then _ else _) = e.timer
    rw [hfi, if_pos (by omega)]
theorem pollS_keep {now : Int} {s : SD} {z : Int × List UInt8} (h : z ∈ s.fl) : z ∈ (pollS now s).fl := sendAll_keep now _ (s.setE _) z h
theorem pollS_sent (now : Int) (s : SD) : (pollS now s).sent = s.sent + (pollF s.e now).2.length := (sendAll_got now _ _).2.2.2
/-- what is sent behind the listed fates is under way -/
theorem Left.good {now : Int} {y y' : SD} (h : Left now y y') (hf : (y.fates.length : Int) ≤ y.sent) {b : List UInt8} (hb : b ∈ (pollF y.e now).2) : (now + 1, b) ∈ y'.fl := by
  rw [h.fl]
  exact List.mem_filter.2 ⟨sendAll_good now _ (y.setE (pollF y.e now).1) hf b hb, by simp; omega⟩
structure Room (s : SD) : Prop where
  fates : s.fates.length ≤ 60
  sent : 0 ≤ s.sent
/-- nothing has grown: all is as it was -/
structure Stuck (now : Int) (x y x' : SD) : Prop where
  acked : x'.e.acked = x.e.acked
  peer : x.e.peer = 0 → x'.e.peer = 0
  sent : (pollF x.e now).2 ≠ [] → 60 ≤ x.sent
theorem GG_grows {now : Int} {x y x' y' : SD} (hx : Half now y x x') (hy : Half now x y y') (lx : Left now x x') (ly : Left now y y') (rx : Room x) (ry : Room y) : GG x y ≤ GG x' y' ∧ (GG x' y' ≤ GG x y → Stuck now x y x' ∧ Stuck now y x y') := by
  have a1 := hx.acked
  have a2 := hy.acked
  obtain ⟨k1, k2⟩ := knows_le hx.peer
  obtain ⟨k3, k4⟩ := knows_le hy.peer
  have s1 := lx.sent.trans (pollS_sent now x)
  have s2 := ly.sent.trans (pollS_sent now y)
  have h1 := rx.sent
  have h2 := ry.sent
  unfold GG
  refine ⟨by omega, fun hle => ⟨⟨by omega, k2 (by omega), fun hne => ?_⟩, ⟨by omega, k4 (by omega), fun hne => ?_⟩⟩⟩
  · have := List.length_pos_iff.2 hne
    omega
  · have := List.length_pos_iff.2 hne
    omega
theorem Ph.step {P Q : List (List UInt8)} {x y x' y' : SD} {now c : Int} (two : Two P Q x y) (ex : x.e.LS) (ey : y.e.LS) (tx : Tk now x) (rx : Room x) (ry : Room y) (hx : Half now y x x') (hy : Half now x y y') (lx : Left now x x') (ly : Left now y y') (hp : Ph now x y c) :
    GG x y < GG x' y' ∨ ∃ c', 1 ≤ c' ∧ c' < c ∧ Ph (now + 1) x' y' c' := by
  obtain ⟨g1, g2⟩ := GG_grows hx hy lx ly rx ry
  by_cases hg : GG x y < GG x' y'
  · exact .inl hg
  right
  obtain ⟨sx, sy⟩ := g2 (by omega)
  obtain ⟨q1, q2, q3⟩ := hx.still sx.acked sx.peer
  obtain ⟨h1, h2, h3, h4, h5⟩ := pollF_same (e := x.e) now
  have hwaits : x.e.waits → x'.e.waits := fun h => by
    rcases h with h | h
    · exact .inl (sx.peer h)
    · exact .inr (by rw [q3]; exact h)
  have hwin : x.e.sent ≤ x.e.acked + (min 4 x.e.queue.length : Nat) := by
    have := tx.win
    have := ex.cons.2.2
    omega
  have hfull : x'.e.full := by
    rcases pollF_full ex now hwin with h | h
    · exact .inl (sx.peer (by rw [← h2]; exact h))
    · rw [h3, h5] at h
      refine .inr ?_
      rw [q1, q3, sx.acked]
      exact h
  have hepy := two.fro.ep
  have hepx := two.fw.ep
  rcases hp with ⟨rfl, hw⟩ | ⟨c1, c2, hw, hf, ht⟩ | ⟨rfl, p, d, hr, hm, hd, hs, hk⟩ | ⟨rfl, ho, hpy, hxy⟩ | ⟨rfl, p, d, hr, hm, hd, hs, hds, hk⟩
  · refine ⟨11, by omega, by omega, .inr (.inl ⟨by omega, by omega, hwaits hw, hfull, ?_⟩)⟩
    rw [q2]
    have := pollF_timer x.e now tx.timer
    omega
  · by_cases hlt : now < x.e.timer
    · refine ⟨c - 1, by omega, by omega, .inr (.inl ⟨by omega, by omega, hwaits hw, hfull, ?_⟩)⟩
      rw [q2, pollF_wait hf hlt]
      omega
    · obtain ⟨p, hr, hb, hs, hk⟩ := pollF_try ex (now := now) hw (by omega) hf
      have h60 := sx.sent (fun h => by rw [h] at hb; simp at hb)
      have hfl := lx.good (by have := rx.fates; omega) hb
      refine ⟨3, by omega, by omega, .inr (.inr (.inl ⟨rfl, p, now + 1, hr, hfl, Int.le_refl _, by rw [hx.epoch]; exact hs, ?_⟩))⟩
      rcases hk with ⟨k1, k2, k3⟩ | ⟨k1, k2, k3, k4⟩
      · exact .inl ⟨k1, sx.peer k3⟩
      · refine .inr ⟨k1, by rw [sx.acked]; exact k3, ?_⟩
        rw [k2, hy.epoch]
        exact two.fro.peer.resolve_left k4
  · obtain ⟨t1, t2, t3, t4⟩ := hy.took p d (pollS_keep hm) hd hr hs
    refine ⟨2, by omega, by omega, .inr (.inr (.inr (.inl ⟨rfl, t2 (by rcases hk with ⟨h, _⟩ | ⟨h, _⟩; exact .inl h; exact .inr h), t1, ?_⟩)))⟩
    rcases hk with ⟨_, k2⟩ | ⟨k1, k2, k3⟩
    · exact .inl (sx.peer k2)
    · have hlow := two.fw.low
      have := t4 k3 k1 (by omega)
      have := sx.acked
      exact .inr (by omega)
  · obtain ⟨p, hr, hb, hs, hds, hak⟩ := pollF_owe ey now hpy ho
    have h60 := sy.sent (fun h => by rw [h] at hb; simp at hb)
    have hfl := ly.good (by have := ry.fates; omega) hb
    refine ⟨1, by omega, by omega, .inr (.inr (.inr (.inr ⟨rfl, p, now + 1, hr, hfl, Int.le_refl _, by rw [hy.epoch]; exact hs, ?_, ?_⟩)))⟩
    · rw [hds, hx.epoch]
      exact two.fw.peer.resolve_left hpy
    · rcases hxy with h | h
      · exact .inl (sx.peer h)
      · exact .inr (by rw [sx.acked, hak]; exact h)
  · exfalso
    obtain ⟨t1, t2, t3, t4⟩ := hx.took p d (pollS_keep hm) hd hr hs
    rcases hk with h | h
    · exact t1 (sx.peer h)
    · have := t3 hds
      have := sx.acked
      omega
def Done (a b : SD) : Prop := a.e.peer ≠ 0 ∧ b.e.peer ≠ 0 ∧ a.e.queue = [] ∧ b.e.queue = []
theorem waits_of {a b : SD} (h : ¬ Done a b) : a.e.waits ∨ b.e.waits := by
  by_cases h1 : a.e.waits
  · exact .inl h1
  · by_cases h2 : b.e.waits
    · exact .inr h2
    · exfalso
      simp only [EP.waits, not_or, Classical.not_not] at h1 h2
      exact h ⟨h1.1, h2.1, h1.2, h2.2⟩
/-- something grows soon -/
def Prog (T0 now : Int) (a b : SD) : Prop := ∃ c, (Ph now a b c ∨ Ph now b a c) ∧ now + c ≤ T0 + 12 * (GG a b + 1)
theorem Prog.start {P Q : List (List UInt8)} {a b : SD} {now : Int} (two : Two P Q a b) (ra : Room a) (rb : Room b) (hd : ¬ Done a b) : Prog now now a b := by
  have h1 := two.fw.ack0
  have h2 := two.fro.ack0
  have h3 := ra.sent
  have h4 := rb.sent
  refine ⟨12, ?_, ?_⟩
  · rcases waits_of hd with h | h
    · exact .inl (.inl ⟨rfl, h⟩)
    · exact .inr (.inl ⟨rfl, h⟩)
  · unfold GG knows
    split <;> split <;> omega
theorem GG_symm (a b : SD) : GG a b = GG b a := by unfold GG; omega
structure Fit (now : Int) (a b : SD) : Prop where
  ta : Tk now a
  tb : Tk now b
  ra : Room a
  rb : Room b
theorem Room.left {now : Int} {y y' : SD} (h : Left now y y') (hr : Room y) : Room y' := ⟨by rw [h.fates]; exact hr.fates, by rw [h.sent, pollS_sent]; have := hr.sent; omega⟩
theorem Fit.exch {a b a' b' : SD} {now : Int} {m n : Nat} (h : Fit now a b) (hn : 0 ≤ now) (la : a.LS m n) (lb : b.LS m n) (hx : Exch now a b a' b') : Fit (now + 1) a' b' := by
  obtain ⟨t1, t2⟩ := hx.tk hn h.ta h.tb la lb
  obtain ⟨l1, l2⟩ := hx.left
  exact ⟨t1, t2, h.ra.left l1, h.rb.left l2⟩
theorem Prog.step {P Q : List (List UInt8)} {a b a' b' : SD} {now T0 : Int} {m n : Nat} (h : Prog T0 now a b) (two : Two P Q a b) (la : a.LS m n) (lb : b.LS m n) (ft : Fit now a b) (hx : Exch now a b a' b') (hd : ¬ Done a' b') : Prog T0 (now + 1) a' b' := by
  obtain ⟨hb, ha⟩ := two.half la lb hx
  obtain ⟨l1, l2⟩ := hx.left
  obtain ⟨c, hp, hc⟩ := h
  have hstep : GG a b < GG a' b' ∨ ∃ c', 1 ≤ c' ∧ c' < c ∧ (Ph (now + 1) a' b' c' ∨ Ph (now + 1) b' a' c') := by
    rcases hp with hp | hp
    · rcases hp.step two la.e lb.e ft.ta ft.ra ft.rb ha hb l1 l2 with h | ⟨c', h1, h2, h3⟩
      · exact .inl h
      · exact .inr ⟨c', h1, h2, .inl h3⟩
    · rcases hp.step two.symm lb.e la.e ft.tb ft.rb ft.ra hb ha l2 l1 with h | ⟨c', h1, h2, h3⟩
      · exact .inl (by rw [GG_symm a b, GG_symm a' b']; exact h)
      · exact .inr ⟨c', h1, h2, .inr h3⟩
  have hgrow := (GG_grows ha hb l1 l2 ft.ra ft.rb).1
  have hc1 : 1 ≤ c := by rcases hp with hp | hp <;> exact hp.range.1
  rcases hstep with h | ⟨c', h1, h2, h3⟩
  · refine ⟨12, ?_, by omega⟩
    rcases waits_of hd with h | h
    · exact .inl (.inl ⟨rfl, h⟩)
    · exact .inr (.inl ⟨rfl, h⟩)
  · exact ⟨c', h3, by omega⟩
theorem knows_one (e : EP) : knows e ≤ 1 := by unfold knows; split <;> omega
theorem Prog.bound {P Q : List (List UInt8)} {a b : SD} {now T0 : Int} (h : Prog T0 now a b) (two : Two P Q a b) : now < T0 + 12 * (123 + P.length + Q.length) := by
  obtain ⟨c, hp, hc⟩ := h
  have hc1 : 1 ≤ c := by rcases hp with hp | hp <;> exact hp.range.1
  have h1 := two.fw.low
  have h2 := two.fw.gotn
  have h3 := two.fro.low
  have h4 := two.fro.gotn
  have k1 := knows_one a.e
  have k2 := knows_one b.e
  unfold GG at hc
  omega
/-- done once is done for ever -/
theorem Done.exch {P Q : List (List UInt8)} {a b a' b' : SD} {now : Int} {m n : Nat} (h : Done a b) (two : Two P Q a b) (la : a.LS m n) (lb : b.LS m n) (hx : Exch now a b a' b') : Done a' b' := by
  obtain ⟨hb, ha⟩ := two.half la lb hx
  have t2 := two.exch la lb hx
  obtain ⟨d1, d2, d3, d4⟩ := h
  refine ⟨by rw [ha.peer d1]; exact d1, by rw [hb.peer d2]; exact d2, ?_, ?_⟩
  · have h1 := two.fw.queue
    rw [d3] at h1
    have h2 : P.length ≤ a.e.acked.toNat := List.drop_eq_nil_iff.1 h1.symm
    have h3 := ha.acked
    rw [t2.fw.queue]
    exact List.drop_eq_nil_iff.2 (by omega)
  · have h1 := two.fro.queue
    rw [d4] at h1
    have h2 : Q.length ≤ b.e.acked.toNat := List.drop_eq_nil_iff.1 h1.symm
    have h3 := hb.acked
    rw [t2.fro.queue]
    exact List.drop_eq_nil_iff.2 (by omega)

/-- an acknowledgement -/
def AckTo (ep : Int) (b : List UInt8) : Prop := ∀ p, DecIs b p 0 → p.kind = 3 ∧ p.dst = ep
theorem quiet_poll {e : EP} (hc : e.Cons) (hp : e.peer ≠ 0) (hq : e.queue = []) (ho : e.owe = false) (now : Int) : pollF e now = (e, []) := by
  obtain ⟨c1, c2, c3⟩ := hc
  rw [hq] at c3
  have c4 : e.sent = e.acked := by simp at c3; omega
  have hfi : e.first now = e.sent := by unfold EP.first; rw [if_neg (by omega)]
  have hk : min 4 e.queue.length - (e.first now - e.acked).toNat = 0 := by rw [hq]; simp
  have hm : pollM e now = (e, []) := by
    unfold pollM
    rw [if_neg hp, hk, hfi]
    simp only [outsL, List.length_nil, ho, EP.at_, if_true]
    simp
    rw [← ho]
  show ((pollM e now).1.quiet (pollM e now).2, (pollM e now).2) = _
  rw [hm]
  simp [EP.quiet]
/-- once all is acknowledged only acknowledgements are sent -/
theorem done_poll {e : EP} (h : e.LS) (hp : e.peer ≠ 0) (hq : e.queue = []) (now : Int) : (pollF e now).1.owe = false ∧ ∀ b ∈ (pollF e now).2, ∃ p, rightP p ∧ b = encP p ∧ p.kind = 3 ∧ p.dst = e.peer := by
  have hk : min 4 e.queue.length - (e.first now - e.acked).toNat = 0 := by rw [hq]; simp
  have hr : rightP ⟨3, e.epoch, e.peer, 0, e.got, []⟩ := right_of (by omega) h.epoch h.peer (by omega) h.got (by simp) (by omega) (fun _ => ⟨rfl, rfl⟩)
  show (if (pollM e now).2.length = 0 then (pollM e now).1.owe else false) = false ∧ ∀ b ∈ (pollM e now).2, _
  unfold pollM
  rw [if_neg hp, hk]
  simp only [outsL, List.length_nil, true_and]
  cases ho : e.owe with
  | false =>
    simp only [Bool.false_eq_true, if_false, List.length_nil, if_true]
    exact ⟨ho, by simp⟩
  | true =>
    simp only [if_true]
    have hs : sendF [] ⟨3, e.epoch, e.peer, 0, e.got, []⟩ = [encP ⟨3, e.epoch, e.peer, 0, e.got, []⟩] := by
      unfold sendF; rw [if_pos hr]; rfl
    rw [hs]
    refine ⟨rfl, fun b hb => ⟨_, hr, by simpa using hb, rfl, rfl⟩⟩
theorem recvF_epoch (e : EP) (p : Pkt) (er : Int) : (recvF e p er).1.epoch = e.epoch := by
  have h1 : (recv1 e p).1.epoch = e.epoch := by unfold recv1; split <;> rfl
  have h2 : ∀ e, (recv2 e p).epoch = e.epoch := fun e => by unfold recv2; split <;> rfl
  have h3 : ∀ e, (recv3 e p).1.epoch = e.epoch := fun e => by
    unfold recv3
    split
    · split <;> rfl
    · split <;> rfl
  unfold recvF
  split
  · rfl
  · split
    · exact h1
    · exact (h3 _).trans ((h2 _).trans h1)
theorem RecvAll.epoch {y y' : SD} {l : List (List UInt8)} (hr : RecvAll y l y') : y'.e.epoch = y.e.epoch := by
  induction hr with
  | nil => rfl
  | snoc h1 h2 ih =>
    obtain ⟨p, er, _, rfl⟩ := h2
    exact (recvF_epoch _ _ _).trans ih
theorem recvF_ack {e : EP} {p : Pkt} {er : Int} (hk : er = 0 → p.kind = 3 ∧ p.dst = e.epoch) : (recvF e p er).1.owe = e.owe := by
  unfold recvF
  split
  · rfl
  · rename_i hne
    obtain ⟨k1, k2⟩ := hk (Classical.byContradiction fun h => hne (.inl h))
    rw [if_neg (by simpa using k2)]
    show (recv3 _ p).1.owe = _
    unfold recv3
    rw [if_neg (by omega), if_neg (by omega), recv2_owe, recv1_owe]
theorem RecvAll.acks {y y' : SD} {l : List (List UInt8)} (hr : RecvAll y l y') (hl : ∀ c ∈ l, AckTo y.e.epoch c) : y'.e.owe = y.e.owe := by
  induction hr with
  | nil => rfl
  | @snoc s1 s2 l b h1 h2 ih =>
    obtain ⟨p, er, hd, rfl⟩ := h2
    rw [← ih (fun c hc => hl c (by simp [hc]))]
    exact recvF_ack (fun h0 => by subst h0; rw [h1.epoch]; exact hl b (by simp) p hd)
theorem sendAll_new (now : Int) (l : List (List UInt8)) : ∀ (s : SD), (∀ f ∈ s.fates, f.OK) → ∀ z ∈ (sendAll now s l).fl, z ∈ s.fl ∨ (∃ b ∈ l, ∃ f : Fate, f.OK ∧ z.2 = damagedL b f) ∧ now + 1 ≤ z.1 ∧ z.1 ≤ now + 100 := by
  induction l with
  | nil => intro s _ z hz; exact .inl hz
  | cons b l ih =>
    intro s hf z hz
    rcases ih (sendOne now s b) hf z hz with hz | ⟨⟨c, hc, f, h1, h2⟩, h3⟩
    · rcases List.mem_append.1 hz with hz | hz
      · exact .inl hz
      · obtain ⟨h0, h1, h2, _⟩ := sentL_mem hz
        exact .inr ⟨⟨b, by simp, _, fateOf_ok hf s.sent, h0⟩, h1, h2⟩
    · exact .inr ⟨⟨c, by simp [hc], f, h1, h2⟩, h3⟩
/-- how y came to be -/
def Rc (now : Int) (x y y' : SD) : Prop := ∃ y0 y1 l, y0.e = (pollF y.e now).1 ∧ RecvAll y0 l y1 ∧ y'.e = y1.e ∧ ∀ c ∈ l, ∃ d, (d, c) ∈ (pollS now x).fl ∧ d ≤ now
theorem due_of {fl : List (Int × List UInt8)} {l : List (List UInt8)} {now : Int} (hp : l.Perm ((fl.filter (fun z => !decide (now < z.1))).map (·.2))) : ∀ c ∈ l, ∃ d, (d, c) ∈ fl ∧ d ≤ now := fun c hc => by
  obtain ⟨z, hz, rfl⟩ := List.mem_map.1 (hp.mem_iff.1 hc)
  obtain ⟨h1, h2⟩ := List.mem_filter.1 hz
  exact ⟨z.1, h1, by simp at h2; exact h2⟩
theorem Exch.rc {a b a' b' : SD} {now : Int} (hx : Exch now a b a' b') : Rc now a b b' ∧ Rc now b a a' := by
  obtain ⟨a2, b2, ⟨oa, pa, rfl, ra⟩, ⟨ob, pb, rfl, rb⟩⟩ := hx
  obtain ⟨_, f2, _⟩ := ra.sent
  refine ⟨⟨_, b2, oa, pollS_e now b, ra, rfl, due_of pa⟩, ⟨_, a', ob, ?_, rb, rfl, fun c hc => by rw [← f2]; exact due_of pb c hc⟩⟩
  exact pollS_e now a
/-- all was done at T1: what x has under way, and whether it owes -/
structure Sil (T1 now : Int) (x y : SD) : Prop where
  fl : ∀ z ∈ x.fl, z.1 ≤ T1 + 100 ∨ AckTo y.e.epoch z.2
  owe : T1 + 102 ≤ now → x.e.owe = false
  few : T1 + 102 ≤ now → ∀ z ∈ x.fl, z.1 ≤ T1 + 202
theorem Sil.step {P Q : List (List UInt8)} {x y x' y' : SD} {now T1 : Int} {m n : Nat} (two : Two P Q x y) (lx : x.LS m n) (ly : y.LS m n) (tx : Tk now x) (ty : Tk now y) (fx : ∀ f ∈ x.fates, f.OK) (hp : x.e.peer ≠ 0) (hq : x.e.queue = []) (hx : Left now x x') (rx : Rc now y x x') (ep : y'.e.epoch = y.e.epoch) (h : Sil T1 now x y) (k : Sil T1 now y x) : Sil T1 (now + 1) x' y' := by
  obtain ⟨d1, d2⟩ := done_poll lx.e hp hq now
  have hpy : x.e.peer = y.e.epoch := two.fro.peer.resolve_left hp
  have hnew : ∀ z ∈ x'.fl, z ∈ x.fl ∨ (AckTo y.e.epoch z.2 ∧ now + 1 ≤ z.1 ∧ z.1 ≤ now + 100 ∧ (pollF x.e now).2 ≠ []) := fun z hz => by
    rw [hx.fl] at hz
    rcases sendAll_new now _ (x.setE (pollF x.e now).1) fx z (List.mem_filter.1 hz).1 with h | ⟨⟨b, hb, f, hf, e⟩, h1, h2⟩
    · exact .inl h
    · obtain ⟨p, hr, rfl, k1, k2⟩ := d2 b hb
      refine .inr ⟨fun q hd => ?_, h1, h2, fun e => by rw [e] at hb; simp at hb⟩
      rw [e] at hd
      rw [dmg_dec hr hf hd]
      exact ⟨k1, k2.trans hpy⟩
  refine ⟨fun z hz => ?_, fun hle => ?_, fun hle z hz => ?_⟩
  · rw [ep]
    rcases hnew z hz with h1 | h1
    · exact h.fl z h1
    · exact .inr h1.1
  · obtain ⟨x0, x1, l, e0, hr, e1, hl⟩ := rx
    rw [e1, hr.acks (fun c hc => ?_), e0]
    · exact d1
    · obtain ⟨d, hm, hd⟩ := hl c hc
      rw [e0, (pollF_same now).1]
      rcases sendAll_due now _ (y.setE (pollF y.e now).1) _ hm with h1 | h1
      · have h2 := ty.lo _ h1
        have h3 : now ≤ d := h2
        rcases k.fl _ h1 with h4 | h4
        · have h4' : d ≤ T1 + 100 := h4
          omega
        · exact h4
      · have h2 : now + 1 ≤ d := h1.1
        omega
  · by_cases h102 : T1 + 102 ≤ now
    · rcases hnew z hz with h1 | ⟨_, _, _, h1⟩
      · exact h.few h102 z h1
      · exact absurd (by rw [quiet_poll lx.e.cons hp hq (h.owe h102)]) h1
    · rcases hnew z hz with h1 | ⟨_, _, h1, _⟩
      · have := tx.hi z h1
        omega
      · omega
/-- nothing is sent any more -/
structure Quiet (a b : SD) : Prop where
  done : Done a b
  fa : a.fl = []
  fb : b.fl = []
  oa : a.e.owe = false
  ob : b.e.owe = false
theorem quiet_pollS {s : SD} (hc : s.e.Cons) (hp : s.e.peer ≠ 0) (hq : s.e.queue = []) (ho : s.e.owe = false) (now : Int) : pollS now s = s := by
  show sendAll now (s.setE (pollF s.e now).1) (pollF s.e now).2 = s
  rw [quiet_poll hc hp hq ho]
  rfl
theorem RecvAll.nil_eq {y y' : SD} {l : List (List UInt8)} (hr : RecvAll y l y') (hl : l = []) : y' = y := by
  cases hr with
  | nil => rfl
  | snoc h1 h2 => simp at hl
theorem Quiet.exch {a b a' b' : SD} {now : Int} (h : Quiet a b) (ca : a.e.Cons) (cb : b.e.Cons) (hx : Exch now a b a' b') : a' = a ∧ b' = b := by
  obtain ⟨⟨d1, d2, d3, d4⟩, fa, fb, oa, ob⟩ := h
  obtain ⟨a2, b2, ⟨l1, p1, rfl, r1⟩, ⟨l2, p2, rfl, r2⟩⟩ := hx
  rw [quiet_pollS ca d1 d3 oa] at p1 r2
  rw [quiet_pollS cb d2 d4 ob] at r1
  rw [fa] at p1 r2
  obtain rfl := r1.nil_eq (by simpa using p1)
  rw [fb] at p2 ⊢
  obtain rfl := r2.nil_eq (by simpa using p2)
  obtain ⟨ea, fla, ffa, sa, ga, ra⟩ := a
  obtain ⟨eb, flb, ffb, sb, gb, rb⟩ := b2
  simp only at fa fb
  subst fa
  subst fb
  exact ⟨rfl, rfl⟩
/-- on the way to silence -/
def Hush (P Q : List (List UInt8)) (now : Int) (a b : SD) : Prop := (¬ Done a b ∧ Prog 0 now a b) ∨ ∃ T1 : Int, T1 ≤ 12 * (123 + P.length + Q.length) ∧ Done a b ∧ Sil T1 now a b ∧ Sil T1 now b a
theorem Sil.start {x y : SD} {now : Int} (h : Tk now x) : Sil now now x y := ⟨fun z hz => .inl (by have := h.hi z hz; omega), fun h => by omega, fun h => by omega⟩
theorem Hush.step {P Q : List (List UInt8)} {a b a' b' : SD} {now : Int} {m n : Nat} (h : Hush P Q now a b) (hn : 0 ≤ now) (two : Two P Q a b) (la : a.LS m n) (lb : b.LS m n) (ft : Fit now a b) (hx : Exch now a b a' b') : Hush P Q (now + 1) a' b' := by
  have ft' := ft.exch hn la lb hx
  obtain ⟨hb, ha⟩ := two.half la lb hx
  obtain ⟨l1, l2⟩ := hx.left
  obtain ⟨r1, r2⟩ := hx.rc
  rcases h with ⟨hd, hp⟩ | ⟨T1, hT, hd, s1, s2⟩
  · by_cases hd' : Done a' b'
    · exact .inr ⟨now + 1, by have := hp.bound two; omega, hd', Sil.start ft'.ta, Sil.start ft'.tb⟩
    · exact .inl ⟨hd', hp.step two la lb ft hx hd'⟩
  · exact .inr ⟨T1, hT, hd.exch two la lb hx, s1.step two la lb ft.ta ft.tb la.fates hd.1 hd.2.2.1 l1 r2 hb.epoch s2, s2.step two.symm lb la ft.tb ft.ta lb.fates hd.2.1 hd.2.2.2 l2 r1 ha.epoch s1⟩
theorem Hush.end_ {P Q : List (List UInt8)} {a b : SD} {now : Int} (h : Hush P Q now a b) (two : Two P Q a b) (ft : Fit now a b) (hn : 12 * (123 + P.length + Q.length) + 203 ≤ now) : Quiet a b := by
  rcases h with ⟨hd, hp⟩ | ⟨T1, hT, hd, s1, s2⟩
  · have := hp.bound two
    omega
  · refine ⟨hd, ?_, ?_, s1.owe (by omega), s2.owe (by omega)⟩
    · cases hf : a.fl with
      | nil => rfl
      | cons z l =>
        have h1 := s1.few (by omega) z (by rw [hf]; simp)
        have h2 := ft.ta.lo z (by rw [hf]; simp)
        omega
    · cases hf : b.fl with
      | nil => rfl
      | cons z l =>
        have h1 := s2.few (by omega) z (by rw [hf]; simp)
        have h2 := ft.tb.lo z (by rw [hf]; simp)
        omega
end Go.Proofs.Ytnobepobalpccaa
