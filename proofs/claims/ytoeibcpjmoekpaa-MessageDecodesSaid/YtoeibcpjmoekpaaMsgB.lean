/- Commands: how they are encoded, by the program and by the reference; how they are compared. -/
import Derived.Test.YtoeibcpjmoekpaaMsgA
namespace Go.Proofs.Ytoeibcpjmoekpaa
open Go.RowKit
set_option linter.unusedVariables false

/-- the call answers whether p holds -/
def Tells (p : Prop) (w : World) (e : Ending) (w' : World) : Prop := ∃ r : Bool, e = .returned (.bool r) ∧ (r = true ↔ p) ∧ Ext w w'
theorem Tells.yes {p : Prop} {w w' : World} (hp : p) (he : Ext w w') : Tells p w (.returned (.bool true)) w' := ⟨true, rfl, ⟨fun _ => hp, fun _ => rfl⟩, he⟩
theorem Tells.no {p : Prop} {w w' : World} (hp : ¬ p) (he : Ext w w') : Tells p w (.returned (.bool false)) w' := ⟨false, rfl, ⟨(fun h => by cases h), fun h => absurd h hp⟩, he⟩

/-- a command -/
structure Cmd where
  kind : Int
  thread : Int
  addr : Int
  n : Int
  words : List Int
def Cmd.head (c : Cmd) : List Int := [c.kind, c.thread, c.addr, c.n]
structure Cmd.Ok (c : Cmd) : Prop where
  head : ∀ x ∈ c.head, I64 x
  words : ∀ x ∈ c.words, I64 x
def CmdAt (w : World) (v : Value) (c : Cmd) : Prop := ∃ y, v = .agg #[.int .i64 c.kind, .int .i64 c.thread, .int .i64 c.addr, .int .i64 c.n, y] ∧ InI w y c.words
def CmdOwn (base : Nat) (w : World) (v : Value) (c : Cmd) : Prop := ∃ y, v = .agg #[.int .i64 c.kind, .int .i64 c.thread, .int .i64 c.addr, .int .i64 c.n, y] ∧ OwnV iv 3 base w y c.words
theorem CmdAt.ext {w w' : World} {v : Value} {c : Cmd} (h : CmdAt w v c) (he : Ext w w') : CmdAt w' v c := by
  obtain ⟨y, rfl, hy⟩ := h
  exact ⟨y, rfl, hy.ext he⟩
theorem CmdOwn.at_ {base : Nat} {w : World} {v : Value} {c : Cmd} (h : CmdOwn base w v c) : CmdAt w v c := by
  obtain ⟨y, rfl, hy⟩ := h
  exact ⟨y, rfl, hy.inV⟩
def encC (c : Cmd) : List UInt8 := listB c.head ++ listB c.words
def EncCPost (c : Cmd) (w : World) (e : Ending) (w' : World) : Prop := ∃ y er, e = .returned (.tuple #[y, .int .i64 er]) ∧ ((c.words.length ≤ 128 ∧ er = 0 ∧ OwnV bv 5 w.heap.size w' y (encC c)) ∨ (128 < c.words.length ∧ er = 5 ∧ y = .slice none 0 0)) ∧ Ext w w'
theorem blk5 {w : World} {g : Nat} {a b c d e : Value} {t : TypeId} (H : w.heap[g]? = some (.cells #[a, b, c, d, e] t (0, 0))) :
    w.cell? ⟨g, 0, none⟩ = some a ∧ w.cell? ⟨g, 1, none⟩ = some b ∧ w.cell? ⟨g, 2, none⟩ = some c ∧ w.cell? ⟨g, 3, none⟩ = some d ∧ w.cell? ⟨g, 4, none⟩ = some e :=
  ⟨blk_at H 0 a rfl, blk_at H 1 b rfl, blk_at H 2 c rfl, blk_at H 3 d rfl, blk_at H 4 e rfl⟩
theorem OwnV_newN {α : Type} {f : α → Value} (w : World) (l : List α) (n : Nat) (hn : n = l.length) (hm : n ≤ 1000000) (C : Array Value) (hC : C.toList = l.map f) (e : TypeId) : OwnV f e w.heap.size (w.alloc (.cells C e)) (.slice (some ⟨w.heap.size, 0, none⟩) n n) l := by
  subst hn
  have hs : C.size = l.length := by rw [← Array.length_toList, hC]; simp
  exact ⟨by simp, .inr ⟨w.heap.size, l.length, C, rfl, Nat.le_refl _, heap_alloc_new w _, Nat.le_refl _, by simp only [maxLen]; omega, by omega, by rw [hC, Nat.mul_one]; exact List.take_of_length_le (by simp)⟩⟩
theorem cells_in {α : Type} {f : α → Value} (w : World) (l : List α) (n : Nat) (hn : n = l.length) (hm : n ≤ 1000000) (C : Array Value) (hC : C.toList = l.map f) (e : TypeId) : InV f (w.alloc (.cells C e)) (.slice (some ⟨w.heap.size, 0, none⟩) n n) l :=
  (OwnV_newN w l n hn hm C hC e).inV

set_option maxHeartbeats 4000000 in
set_option maxRecDepth 100000 in
theorem EncodeCommand_any (v : Value) (c : Cmd) (w : World) (hc : CmdAt w v c) (hok : c.Ok) (hl : c.words.length ≤ 1000000) :
    Calls Try.prog 18 #[v] w (EncCPost c w) := by
  obtain ⟨y, rfl, hy⟩ := hc
  obtain ⟨A, cp, rfl, _, _⟩ := id hy
  go_enter Try.func18, Try.ntmps18
  go_upto_region 1 with fail
  obtain ⟨W, hW, hE, hB⟩ : ∃ W, W = w.alloc (.cells #[.int .i64 c.kind, .int .i64 c.thread, .int .i64 c.addr, .int .i64 c.n, .slice A c.words.length cp] 28) ∧ Ext w W ∧ W.heap[w.heap.size]? = some (.cells #[.int .i64 c.kind, .int .i64 c.thread, .int .i64 c.addr, .int .i64 c.n, .slice A c.words.length cp] 28 (0, 0)) :=
    ⟨_, rfl, (Ext.refl w).alloc _, heap_alloc_new w _⟩
  rw [← hW]
  clear hW
  obtain ⟨q0, q1, q2, q3, q4⟩ := blk5 hB
  by_cases h : 128 < c.words.length
  · have h' : (128 : Int) < (c.words.length : Int) := by omega
    go_wp2_with fail
    go_ret2
    exact ⟨_, _, rfl, .inr ⟨h, rfl, rfl⟩, hE⟩
  · have h' : ¬ (128 : Int) < (c.words.length : Int) := by omega
    have HO := Lib.hid hok
    go_wp2_with fail
    have hX := (Ext.refl W).alloc (.cells #[.int .i64 c.kind, .int .i64 c.thread, .int .i64 c.addr, .int .i64 c.n] 3)
    have hin := cells_in (f := iv) W c.head 4 rfl (by omega) #[.int .i64 c.kind, .int .i64 c.thread, .int .i64 c.addr, .int .i64 c.n] rfl 3
    have hE2 := hE.trans hX
    have hB2 := hX.heap hB
    refine (appendList_any w.heap.size (.slice none 0 0) _ [] c.head _ (OwnV.nil _) hE2.size hin (fun v' W' hg => hin.ext (hg.ext (Ext.refl _) (by simp [Value.ownBlock]))) HO.out.head (by simp) (by simp [Cmd.head])).mono ?_
    clear hin
    generalize W.alloc (.cells #[.int .i64 c.kind, .int .i64 c.thread, .int .i64 c.addr, .int .i64 c.n] 3) = W1 at *
    rintro e w2 ⟨v2, rfl, ho2, hg2⟩
    rw [List.nil_append] at ho2
    have he2 := hg2.ext (Ext.refl _) (by simp [Value.ownBlock])
    have hE3 := hE2.trans he2
    clear q0 q1 q2 q3 q4
    obtain ⟨q0, q1, q2, q3, q4⟩ := blk5 (he2.heap hB2)
    have hhl := listB_len c.head HO.out.head (by simp [Cmd.head])
    have hhl' : (listB c.head).length ≤ 50 := hhl
    clear hhl
    go_wp2_with fail
    refine (appendList_any w.heap.size v2 _ _ c.words w2 ho2 hE3.size (hy.ext hE3) (fun v' W' hg => hy.ext (hg.ext hE3 ho2.ge)) HO.out.words (by omega) (by omega)).mono ?_
    rintro e w3 ⟨v3, rfl, ho3, hg3⟩
    go_wp2_with fail
    go_ret2
    exact ⟨_, _, rfl, .inl ⟨by omega, rfl, ho3⟩, hg3.ext hE3 ho2.ge⟩

set_option maxHeartbeats 4000000 in
set_option maxRecDepth 100000 in
theorem refEncodeCommand_any (v : Value) (c : Cmd) (w : World) (hc : CmdAt w v c) (hok : c.Ok) (hl : c.words.length ≤ 1000000) :
    Calls Try.prog 19 #[v] w (EncCPost c w) := by
  obtain ⟨y, rfl, hy⟩ := hc
  obtain ⟨A, cp, rfl, _, _⟩ := id hy
  go_enter Try.func19, Try.ntmps19
  go_upto_region 1 with fail
  obtain ⟨W, hW, hE, hB⟩ : ∃ W, W = w.alloc (.cells #[.int .i64 c.kind, .int .i64 c.thread, .int .i64 c.addr, .int .i64 c.n, .slice A c.words.length cp] 28) ∧ Ext w W ∧ W.heap[w.heap.size]? = some (.cells #[.int .i64 c.kind, .int .i64 c.thread, .int .i64 c.addr, .int .i64 c.n, .slice A c.words.length cp] 28 (0, 0)) :=
    ⟨_, rfl, (Ext.refl w).alloc _, heap_alloc_new w _⟩
  rw [← hW]
  clear hW
  obtain ⟨q0, q1, q2, q3, q4⟩ := blk5 hB
  by_cases h : 128 < c.words.length
  · have h' : (128 : Int) < (c.words.length : Int) := by omega
    go_wp2_with fail
    go_ret2
    exact ⟨_, _, rfl, .inr ⟨h, rfl, rfl⟩, hE⟩
  · have h' : ¬ (128 : Int) < (c.words.length : Int) := by omega
    have HO := Lib.hid hok
    have hhl : (listB c.head).length ≤ 50 := listB_len c.head hok.head (by simp [Cmd.head])
    go_wp2_with fail
    clear q0 q1 q2 q3 q4
    refine wp_region_X #[true, true, true, true, true, true, true, true, true, true, true, true, true, false, false] 13 2 (by kernel_rfl) rfl ?_
    refine wpX_v 0 (.pointer (some ⟨w.heap.size, 0, none⟩)) rfl rfl (by kernel_rfl) (by kernel_rfl) (by kernel_rfl) (fun _ _ _ _ h => h) (by kernel_rfl) rfl (by rfl) (fun W' hW => by
      obtain ⟨q0, q1, q2, q3, q4⟩ := blk5 ((((Ext.refl W).drew).trans hW).heap hB)
      go_simp) ?_
    simp only [List.setIfInBounds_toArray, List.set_cons_zero, List.set_cons_succ]
    refine wpX_v 1 (.int .i64 c.kind) rfl rfl (by kernel_rfl) (by kernel_rfl) (by kernel_rfl) (fun _ _ _ _ h => h) (by kernel_rfl) rfl (by rfl) (fun W' hW => by
      obtain ⟨q0, q1, q2, q3, q4⟩ := blk5 ((((Ext.refl W).drew).trans hW).heap hB)
      go_simp) ?_
    simp only [List.setIfInBounds_toArray, List.set_cons_zero, List.set_cons_succ]
    refine wpX_v 2 (.pointer (some ⟨w.heap.size, 1, none⟩)) rfl rfl (by kernel_rfl) (by kernel_rfl) (by kernel_rfl) (fun _ _ _ _ h => h) (by kernel_rfl) rfl (by rfl) (fun W' hW => by
      obtain ⟨q0, q1, q2, q3, q4⟩ := blk5 ((((Ext.refl W).drew).trans hW).heap hB)
      go_simp) ?_
    simp only [List.setIfInBounds_toArray, List.set_cons_zero, List.set_cons_succ]
    refine wpX_v 3 (.int .i64 c.thread) rfl rfl (by kernel_rfl) (by kernel_rfl) (by kernel_rfl) (fun _ _ _ _ h => h) (by kernel_rfl) rfl (by rfl) (fun W' hW => by
      obtain ⟨q0, q1, q2, q3, q4⟩ := blk5 ((((Ext.refl W).drew).trans hW).heap hB)
      go_simp) ?_
    simp only [List.setIfInBounds_toArray, List.set_cons_zero, List.set_cons_succ]
    refine wpX_v 4 (.pointer (some ⟨w.heap.size, 2, none⟩)) rfl rfl (by kernel_rfl) (by kernel_rfl) (by kernel_rfl) (fun _ _ _ _ h => h) (by kernel_rfl) rfl (by rfl) (fun W' hW => by
      obtain ⟨q0, q1, q2, q3, q4⟩ := blk5 ((((Ext.refl W).drew).trans hW).heap hB)
      go_simp) ?_
    simp only [List.setIfInBounds_toArray, List.set_cons_zero, List.set_cons_succ]
    refine wpX_v 5 (.int .i64 c.addr) rfl rfl (by kernel_rfl) (by kernel_rfl) (by kernel_rfl) (fun _ _ _ _ h => h) (by kernel_rfl) rfl (by rfl) (fun W' hW => by
      obtain ⟨q0, q1, q2, q3, q4⟩ := blk5 ((((Ext.refl W).drew).trans hW).heap hB)
      go_simp) ?_
    simp only [List.setIfInBounds_toArray, List.set_cons_zero, List.set_cons_succ]
    refine wpX_v 6 (.pointer (some ⟨w.heap.size, 3, none⟩)) rfl rfl (by kernel_rfl) (by kernel_rfl) (by kernel_rfl) (fun _ _ _ _ h => h) (by kernel_rfl) rfl (by rfl) (fun W' hW => by
      obtain ⟨q0, q1, q2, q3, q4⟩ := blk5 ((((Ext.refl W).drew).trans hW).heap hB)
      go_simp) ?_
    simp only [List.setIfInBounds_toArray, List.set_cons_zero, List.set_cons_succ]
    refine wpX_v 7 (.int .i64 c.n) rfl rfl (by kernel_rfl) (by kernel_rfl) (by kernel_rfl) (fun _ _ _ _ h => h) (by kernel_rfl) rfl (by rfl) (fun W' hW => by
      obtain ⟨q0, q1, q2, q3, q4⟩ := blk5 ((((Ext.refl W).drew).trans hW).heap hB)
      go_simp) ?_
    simp only [List.setIfInBounds_toArray, List.set_cons_zero, List.set_cons_succ]
    refine wpX_v 10 (.pointer (some ⟨w.heap.size, 4, none⟩)) rfl rfl (by kernel_rfl) (by kernel_rfl) (by kernel_rfl) (fun _ _ _ _ h => h) (by kernel_rfl) rfl (by rfl) (fun W' hW => by
      obtain ⟨q0, q1, q2, q3, q4⟩ := blk5 ((((Ext.refl W).drew).trans hW).heap hB)
      go_simp) ?_
    simp only [List.setIfInBounds_toArray, List.set_cons_zero, List.set_cons_succ]
    refine wpX_v 11 (.slice A c.words.length cp) rfl rfl (by kernel_rfl) (by kernel_rfl) (by kernel_rfl) (fun _ _ _ _ h => h) (by kernel_rfl) rfl (by rfl) (fun W' hW => by
      obtain ⟨q0, q1, q2, q3, q4⟩ := blk5 ((((Ext.refl W).drew).trans hW).heap hB)
      go_simp) ?_
    simp only [List.setIfInBounds_toArray, List.set_cons_zero, List.set_cons_succ]
    refine wpX_m 8 rfl rfl (by kernel_rfl) rfl (by rfl) fun W1 hW1 => ?_
    have hX := (Ext.refl W1).alloc (.cells #[.int .i64 c.kind, .int .i64 c.thread, .int .i64 c.addr, .int .i64 c.n] 3)
    refine ⟨.slice (some ⟨W1.heap.size, 0, none⟩) 4 4, W1.alloc (.cells #[.int .i64 c.kind, .int .i64 c.thread, .int .i64 c.addr, .int .i64 c.n] 3), by go_simp, hX, ?_⟩
    simp only [List.setIfInBounds_toArray, List.set_cons_zero, List.set_cons_succ]
    have hin := cells_in (f := iv) W1 c.head 4 rfl (by omega) #[.int .i64 c.kind, .int .i64 c.thread, .int .i64 c.addr, .int .i64 c.n] rfl 3
    have hE1 := ((hE.drew).trans hW1).trans hX
    generalize W1.alloc (.cells #[.int .i64 c.kind, .int .i64 c.thread, .int .i64 c.addr, .int .i64 c.n] 3) = W2 at *
    refine wpX_c 9 39 #[.slice none 0 0, .slice (some ⟨W1.heap.size, 0, none⟩) 4 4] rfl rfl (by kernel_rfl) rfl rfl (fun W => by go_simp) ?_
    intro W3 hW3
    refine (reflist_any _ _ [] c.head W3 (InV.nil _) (hin.ext hW3) HO.out.head (by simp) (by simp [Cmd.head])).mono ?_
    rintro e w4 ⟨v4, rfl, ho4, he4⟩
    rw [List.nil_append] at ho4
    refine ⟨_, rfl, he4, ?_⟩
    simp only [List.setIfInBounds_toArray, List.set_cons_zero, List.set_cons_succ]
    have hE4 := (hE1.trans hW3).trans he4
    refine wpX_c 12 39 #[v4, .slice A c.words.length cp] rfl rfl (by kernel_rfl) rfl rfl (fun W => by go_simp) ?_
    intro W5 hW5
    refine (reflist_any _ _ _ c.words W5 (ho4.inV.ext hW5) (hy.ext (hE4.trans hW5)) HO.out.words (by omega) (by omega)).mono ?_
    rintro e w6 ⟨v6, rfl, ho6, he6⟩
    refine ⟨_, rfl, he6, ?_⟩
    simp only [List.setIfInBounds_toArray, List.set_cons_zero, List.set_cons_succ]
    have hE6 := (hE4.trans hW5).trans he6
    have ho7 := ho6.low (hE4.trans hW5).size
    refine wpX_end rfl fun W7 hW7 => tail_seq 13 rfl (by kernel_rfl) ?_
    go_wp2_with fail
    refine NoPanic.normal ?_
    go_wp2_with fail
    go_ret2
    exact ⟨_, _, rfl, .inl ⟨by omega, rfl, ho7.ext hW7⟩, hE6.trans hW7⟩

set_option maxHeartbeats 1000000 in
set_option maxRecDepth 100000 in
theorem Ints_any (x y : Value) (l m : List Int) (w : World) (hx : InI w x l) (hy : InI w y m) (hl : l.length ≤ 1000000000) (hm : m.length ≤ 1000000000) :
    Calls Try.prog 43 #[x, y] w (Tells (l = m) w) := by
  obtain ⟨A, c, rfl, _, _⟩ := id hx
  obtain ⟨B, d, rfl, _, _⟩ := id hy
  by_cases h : l.length = m.length
  · have e0 : ((l.length : Int) == (m.length : Int)) = true := by simp [h]
    have HL := Lib.hid h
    have hle : l.length ≤ m.length := by omega
    clear h
    go_enter Try.func43, Try.ntmps43
    go_wp2_with fail
    go_loopw [5] (fun i wr => ∃ j : Nat, j ≤ l.length ∧ i = .int .i64 (j : Int) ∧ l.take j = m.take j ∧ Ext w wr) (fun i _ => l.length - (intOf i).toNat)
    case atStart => exact ⟨0, by omega, rfl, rfl, Ext.refl _⟩
    case round =>
      obtain ⟨j, hj, rfl, hall, hX⟩ := hrel
      have HA := Lib.hid hall
      clear hall
      by_cases hlt : j < l.length
      · have hlt2 : j < m.length := by omega
        obtain ⟨b1, o1, rfl, hc1⟩ := InI.at_ (hx.ext hX) hlt
        obtain ⟨b2, o2, rfl, hc2⟩ := InI.at_ (hy.ext hX) hlt2
        have H1 := Lib.hid (List.take_succ_eq_append_getElem hlt)
        have H2 := Lib.hid (List.take_succ_eq_append_getElem hlt2)
        have HN : Hid (l[j] ≠ m[j] → l ≠ m) := Lib.hid fun hne e => hne (by subst e; rfl)
        have hi1 : (j : Int) < (l.length : Int) := by omega
        have hi2 : (j : Int) < (m.length : Int) := by omega
        generalize l[j] = a at *
        generalize m[j] = b at *
        by_cases e : a = b
        · have e1 : (a == b) = true := by simp [e]
          have HE := Lib.hid e
          clear e
          go_wp2_with fail
          go_quiet (fail)
          go_wp2_with fail
          go_roundw
          case rel => exact ⟨j + 1, by omega, by go_num, by rw [H1.out, H2.out, HA.out, HE.out], hX.drewN _⟩
          case measure => simp [intOf]; omega
        · have e1 : (a == b) = false := by simp [e]
          have HE := Lib.hid (HN.out e)
          clear e
          go_wp2_with fail
          go_quiet (fail)
          go_wp2_with fail
          go_ret
          exact Tells.no HE.out (hX.drewN _)
      · obtain rfl : j = l.length := by omega
        go_wp2_with fail
        go_ret
        exact Tells.yes (by have := HA.out; rw [List.take_length, HL.out, List.take_length] at this; exact this) hX
  · have e0 : ((l.length : Int) == (m.length : Int)) = false := by simp; omega
    have HL : Hid (l ≠ m) := Lib.hid fun e => h (by rw [e])
    go_enter Try.func43, Try.ntmps43
    go_wp2_with fail
    go_ret
    exact Tells.no HL.out (Ext.refl _)

theorem cmd_eq {c d : Cmd} (h0 : c.kind = d.kind) (h1 : c.thread = d.thread) (h2 : c.addr = d.addr) (h3 : c.n = d.n) (h4 : c.words = d.words) : c = d := by
  cases c; cases d; simp_all
set_option maxHeartbeats 1000000 in
set_option maxRecDepth 100000 in
theorem SameCommand_any (u v : Value) (c d : Cmd) (w : World) (hc : CmdAt w u c) (hd : CmdAt w v d) (hl : c.words.length ≤ 1000000000) (hm : d.words.length ≤ 1000000000) :
    Calls Try.prog 21 #[u, v] w (Tells (c = d) w) := by
  obtain ⟨y, rfl, hy⟩ := hc
  obtain ⟨z, rfl, hz⟩ := hd
  obtain ⟨A, cp, rfl, _, _⟩ := id hy
  obtain ⟨B, dp, rfl, _, _⟩ := id hz
  go_enter Try.func21, Try.ntmps21
  go_upto_region 1 with fail
  obtain ⟨W, hW, hE, hB, hD⟩ : ∃ W, W = (w.alloc (.cells #[.int .i64 c.kind, .int .i64 c.thread, .int .i64 c.addr, .int .i64 c.n, .slice A c.words.length cp] 28)).alloc (.cells #[.int .i64 d.kind, .int .i64 d.thread, .int .i64 d.addr, .int .i64 d.n, .slice B d.words.length dp] 28) ∧ Ext w W ∧ W.heap[w.heap.size]? = some (.cells #[.int .i64 c.kind, .int .i64 c.thread, .int .i64 c.addr, .int .i64 c.n, .slice A c.words.length cp] 28 (0, 0)) ∧ W.heap[w.heap.size + 1]? = some (.cells #[.int .i64 d.kind, .int .i64 d.thread, .int .i64 d.addr, .int .i64 d.n, .slice B d.words.length dp] 28 (0, 0)) := ⟨_, rfl, ((Ext.refl w).alloc _).alloc _, ((Ext.refl _).alloc _).heap (heap_alloc_new w _), by have := heap_alloc_new (w.alloc (.cells #[.int .i64 c.kind, .int .i64 c.thread, .int .i64 c.addr, .int .i64 c.n, .slice A c.words.length cp] 28)) (.cells #[.int .i64 d.kind, .int .i64 d.thread, .int .i64 d.addr, .int .i64 d.n, .slice B d.words.length dp] 28); simpa using this⟩
  rw [← hW]
  clear hW
  obtain ⟨q0, q1, q2, q3, q4⟩ := blk5 hB
  obtain ⟨p0, p1, p2, p3, p4⟩ := blk5 hD
  by_cases h0 : c.kind = d.kind
  · have e0 : (c.kind == d.kind) = true := by simpa using h0
    have H0 := Lib.hid h0
    clear h0
    by_cases h1 : c.thread = d.thread
    · have e1 : (c.thread == d.thread) = true := by simpa using h1
      have H1 := Lib.hid h1
      clear h1
      by_cases h2 : c.addr = d.addr
      · have e2 : (c.addr == d.addr) = true := by simpa using h2
        have H2 := Lib.hid h2
        clear h2
        by_cases h3 : c.n = d.n
        · have e3 : (c.n == d.n) = true := by simpa using h3
          have H3 := Lib.hid h3
          clear h3
          go_wp2_with fail
          refine (Ints_any _ _ _ _ W (hy.ext hE) (hz.ext hE) hl hm).mono ?_
          rintro e w1 ⟨r, rfl, hr1, he1⟩
          have HR := Lib.hid hr1
          clear hr1
          go_wp2_with fail
          go_ret
          exact ⟨r, rfl, ⟨fun h => cmd_eq H0.out H1.out H2.out H3.out (HR.out.1 h), fun h => HR.out.2 (by rw [h])⟩, hE.trans he1⟩
        · have e3 : (c.n == d.n) = false := by simpa using h3
          have H3 := Lib.hid h3
          clear h3
          go_wp2_with fail
          go_ret
          exact Tells.no (fun h => H3.out (by rw [h])) hE
      · have e2 : (c.addr == d.addr) = false := by simpa using h2
        have H2 := Lib.hid h2
        clear h2
        go_wp2_with fail
        go_ret
        exact Tells.no (fun h => H2.out (by rw [h])) hE
    · have e1 : (c.thread == d.thread) = false := by simpa using h1
      have H1 := Lib.hid h1
      clear h1
      go_wp2_with fail
      go_ret
      exact Tells.no (fun h => H1.out (by rw [h])) hE
  · have e0 : (c.kind == d.kind) = false := by simpa using h0
    have H0 := Lib.hid h0
    clear h0
    go_wp2_with fail
    go_ret
    exact Tells.no (fun h => H0.out (by rw [h])) hE
end Go.Proofs.Ytoeibcpjmoekpaa
