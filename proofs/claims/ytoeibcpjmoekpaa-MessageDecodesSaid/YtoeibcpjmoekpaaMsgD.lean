/- Readers of lists: the program's and the reference's. -/
import Derived.Test.YtoeibcpjmoekpaaMsgC
namespace Go.Proofs.Ytoeibcpjmoekpaa
open Go.RowKit
set_option linter.unusedVariables false

theorem numsR_len (b : List UInt8) : ∀ (n : Nat) (p : Int) (r : List Int × Int), numsR b n p = some r → r.1.length = n ∧ ∀ x ∈ r.1, I64 x := by
  intro n
  induction n with
  | zero => intro p r h; simp only [numsR, Option.some.injEq] at h; subst h; simp
  | succ n ih =>
    intro p r h
    rw [numsR] at h
    split at h
    · rcases h2 : numsR b n (intR b p).2.1 with _ | r2
      · rw [h2] at h; cases h
      · rw [h2] at h
        simp only [Option.map_some, Option.some.injEq] at h
        subst h
        obtain ⟨h3, h4⟩ := ih _ _ h2
        refine ⟨by simp [h3], ?_⟩
        intro x hx
        rcases List.mem_cons.1 hx with rfl | hx
        · exact intR_i64 b p
        · exact h4 x hx
    · cases h
/-- what is read in a loop: l so far, k to go -/
structure NumsIn (b : List UInt8) (n k : Nat) (p0 : Option Int) (l : List Int) (st : Option Int) : Prop where
  eq : p0.bind (numsR b n) = (st.bind (numsR b k)).map fun r => (l ++ r.1, r.2)
  len : l.length + k = n
  ok : ∀ x ∈ l, I64 x
theorem NumsIn.start (b : List UInt8) (n : Nat) (p : Option Int) : NumsIn b n n p [] p := ⟨by
  rcases p.bind (numsR b n) with _ | r <;> rfl, by simp, by simp⟩
theorem NumsIn.step {b : List UInt8} {n k : Nat} {p0 : Option Int} {l : List Int} {p : Int} (h : NumsIn b n (k + 1) p0 l (some p)) : NumsIn b n k p0 (l ++ [(numR b (some p)).1]) (numR b (some p)).2 := by
  refine ⟨?_, by have := h.len; simp; omega, ?_⟩
  · rw [h.eq]
    simp only [Option.bind_some, numsR, numR]
    split
    · simp only [Option.bind_some, Option.map_map]
      rcases numsR b k (intR b p).2.1 with _ | r
      · rfl
      · simp
    · rfl
  · intro x hx
    rcases List.mem_append.1 hx with hx | hx
    · exact h.ok x hx
    · simp only [List.mem_singleton] at hx
      subst hx
      exact numR_i64 b _
/-- what a reader of a list leaves behind: r is what was there to be read -/
def ListIs (r : Option (List Int × Int)) (l : List Int) (st : Option Int) : Prop := (∃ q, r = some (l, q) ∧ st = some q) ∨ (r = none ∧ st = none)
theorem NumsIn.done {b : List UInt8} {n : Nat} {p0 : Option Int} {l : List Int} {st : Option Int} (h : NumsIn b n 0 p0 l st) : ListIs (p0.bind (numsR b n)) l st := by
  rw [h.eq]
  rcases st with _ | p
  · exact .inr ⟨rfl, rfl⟩
  · exact .inl ⟨p, by simp [numsR], rfl⟩
theorem NumsIn.bad {b : List UInt8} {n k : Nat} {p0 : Option Int} {l : List Int} (h : NumsIn b n k p0 l none) : ListIs (p0.bind (numsR b n)) l none := by
  rw [h.eq]
  exact .inr ⟨rfl, rfl⟩
theorem cnt_list (b : List UInt8) (most : Int) (st : Option Int) : (cntR b most st).2.bind (numsR b (cntR b most st).1.toNat) = st.bind (listR b most) := by
  rcases st with _ | p
  · rfl
  · simp only [cntR, listR, Option.bind_some]
    split <;> simp_all
theorem cnt_range (b : List UInt8) (most : Int) (hm : 0 ≤ most) (st : Option Int) : 0 ≤ (cntR b most st).1 ∧ (cntR b most st).1 ≤ most := by
  rcases st with _ | p
  · exact ⟨Int.le_refl _, hm⟩
  · simp only [cntR]
    split
    · rename_i h
      exact ⟨by simp [uintR], h.2⟩
    · exact ⟨Int.le_refl _, hm⟩
def ListPost (t : TypeId) (w0 W : World) (g : Nat) (y : Value) (b : List UInt8) (most : Int) (st : Option Int) (e : Ending) (W' : World) : Prop :=
  ∃ z l st', e = .returned z ∧ OwnV iv 3 W.heap.size W' z l ∧ RS t w0 W' g y b st' ∧ ListIs (st.bind (listR b most)) l st' ∧ (l.length : Int) ≤ most ∧ (∀ x ∈ l, I64 x) ∧ W.grownBy W' (some g)

set_option maxHeartbeats 4000000 in
set_option maxRecDepth 100000 in
theorem rdList_any (w0 W : World) (g : Nat) (y : Value) (b : List UInt8) (st : Option Int) (most : Int) (hm : 0 ≤ most) (hm2 : most ≤ 1000000) (hS : RS 76 w0 W g y b st) (hl : b.length ≤ 4294967296) :
    Calls Try.prog 41 #[.pointer (some ⟨g, 0, none⟩), .int .i64 most] W (ListPost 76 w0 W g y b most st) := by
  go_enter Try.func41, Try.ntmps41
  go_wp2_with fail
  refine (rdCount_any w0 W g y b st most hS hl).mono ?_
  rintro e w1 ⟨rfl, hS1, hg1⟩
  have HC := Lib.hid (cnt_list b most st)
  have hr := cnt_range b most hm st
  generalize (cntR b most st).2 = st1 at *
  generalize (cntR b most st).1 = n at *
  obtain ⟨n, rfl⟩ := Int.eq_ofNat_of_zero_le hr.1
  rw [Int.toNat_natCast] at HC
  go_wp2_with fail
  go_loopw [5, 6] (fun x i wr => ∃ (k : Nat) (l : List Int) (st2 : Option Int), i = .int .i64 (k : Int) ∧ OwnV iv 3 W.heap.size wr x l ∧ RS 76 w0 wr g y b st2 ∧ NumsIn b n k st1 l st2 ∧ W.grownBy wr (some g)) (fun _ i _ => (intOf i).toNat)
  case atStart => exact ⟨n, [], st1, rfl, OwnV.nil _, hS1, NumsIn.start b n st1, hg1⟩
  case round =>
    clear hS1 hg1
    obtain ⟨k, l, st2, rfl, ho, hS2, hN, hg⟩ := hrel
    have hlen := hN.len
    obtain ⟨p, bad, hB, rfl⟩ := id hS2.blk
    obtain ⟨q0, q1, q2, f0, f1, f2⟩ := blk3 hB
    have HN := Lib.hid hN
    clear hN
    rcases k with _ | k
    · go_wp2_with fail
      go_ret
      refine ⟨_, l, _, rfl, ho, hS2, by rw [← HC.out]; exact HN.out.done, by omega, HN.out.ok, hg⟩
    · have hk : (0 : Int) < ((k + 1 : Nat) : Int) := by omega
      cases bad with
      | true =>
        go_wp2_with fail
        go_ret
        refine ⟨_, l, _, rfl, ho, hS2, by rw [← HC.out]; exact HN.out.bad, by omega, HN.out.ok, hg⟩
      | false =>
        have HN2 := Lib.hid (HN.out.step)
        go_wp2_with fail
        refine (rdNumber_any w0 wr g y b _ hS2 hl).mono ?_
        rintro e w3 ⟨rfl, hS3, hg3⟩
        change RS _ _ _ _ _ _ (numR b (some p)).2 at hS3
        change Hid (NumsIn b n k st1 (l ++ [(numR b (some p)).1]) (numR b (some p)).2) at HN2
        rw [show numR b (stO false p) = numR b (some p) from rfl]
        generalize (numR b (some p)).1 = x at *
        generalize (numR b (some p)).2 = st3 at *
        have hne := ho.ne_blk hB (by decide)
        have ho3 := ho.kept hg3 (.inr hne)
        have hgg := gtrans hg hg3
        have hsz := hgg.size
        have hX := (Ext.refl w3).alloc (.cells #[.int .i64 x] 3)
        go_wp2_with (at_builtin; go_must (refine wpList_appendV elem_int (fun _ => rfl) rfl (.tmp 21) (.tmp 24) rfl W.heap.size _ l rfl (ho3.ext hX) _ [x] rfl (OwnV_new (f := iv) w3 x _).inV (by simp; omega) (by omega) (by simp; omega) (Hold.out ?_)))
        refine Hold.mk fun v4 w4 ho4 hg4 => ?_
        have hS4 := (hS3.grow hX).far hg4.grown (fun e => hne e.symm) (fun k hk => by have := ho.ge k hk; have := hS.ge; have := (World.grownBy.size hg); have := hS.ext.size; omega)
        have hgg4 := gnew (gtrans hgg (hX.grownBy _)) hg4.grown ho.ge
        go_wp2_with fail
        go_roundw
        case rel => exact ⟨k, l ++ [x], st3, by go_num, ho4, hS4, HN2.out, hgg4⟩
        case measure => simp [intOf]

theorem u_list (b : List UInt8) (most : Int) (st : Option Int) (h : (uR b st).1 ≤ most) : (uR b st).2.bind (numsR b (uR b st).1.toNat) = st.bind (listR b most) := by
  rcases st with _ | p
  · rfl
  · simp only [uR, listR, Option.bind_some] at h ⊢
    by_cases h0 : (uintR b p).2.2 = 0
    · rw [if_pos h0] at h ⊢
      rw [if_pos ⟨h0, h⟩]
      rfl
    · rw [if_neg h0, if_neg (fun e => h0 e.1)]
      rfl
theorem u_list2 (b : List UInt8) (most : Int) (hm : 0 ≤ most) (st : Option Int) (h : most < (uR b st).1) : st.bind (listR b most) = none := by
  rcases st with _ | p
  · rfl
  · simp only [uR, listR, Option.bind_some] at h ⊢
    by_cases h0 : (uintR b p).2.2 = 0
    · rw [if_pos h0] at h
      rw [if_neg (fun e => by have := e.2; simp only at h; omega)]
    · rw [if_neg (fun e => h0 e.1)]
theorem u_range (b : List UInt8) (st : Option Int) : 0 ≤ (uR b st).1 ∧ (uR b st).1 < 9223372036854775808 := by
  rcases st with _ | p
  · exact ⟨Int.le_refl _, show (0 : Int) < _ by decide⟩
  · simp only [uR]
    split
    · have := rdAt_lt8 b p
      exact ⟨by simp [uintR], by simp only [uintR]; omega⟩
    · exact ⟨Int.le_refl _, by decide⟩

set_option maxHeartbeats 4000000 in
set_option maxRecDepth 100000 in
theorem rfList_any (w0 W : World) (g : Nat) (y : Value) (b : List UInt8) (st : Option Int) (most : Int) (hm : 0 ≤ most) (hm2 : most ≤ 1000000) (hS : RS 100 w0 W g y b st) (hl : b.length ≤ 4294967296) :
    Calls Try.prog 57 #[.pointer (some ⟨g, 0, none⟩), .int .i64 most] W (ListPost 100 w0 W g y b most st) := by
  go_enter Try.func57, Try.ntmps57
  go_wp2_with fail
  refine (rfUint_any w0 W g y b st hS hl).mono ?_
  rintro e w1 ⟨rfl, hS1, hg1⟩
  have HC := Lib.hid (u_list b most st)
  have HC2 := Lib.hid (u_list2 b most hm st)
  have hr := u_range b st
  generalize (uR b st).2 = st1 at *
  generalize (uR b st).1 = n at *
  obtain ⟨n, rfl⟩ := Int.eq_ofNat_of_zero_le hr.1
  rw [Int.toNat_natCast] at HC
  obtain ⟨p, bad, hB, rfl⟩ := id hS1.blk
  obtain ⟨q0, q1, q2, f0, f1, f2⟩ := blk3 hB
  have hlt := World.block_lt_of_cell? _ _ q0
  simp only at hlt
  by_cases h : most < (n : Int)
  · have h0 : (0 : Int) < (n : Int) := by omega
    have HC3 := Lib.hid (HC2.out h)
    clear HC HC2
    go_wp2_with fail
    have hS2 := hS1.put (p := p) (bad := true) (gset _ ⟨g, 2, none⟩ _) (blk_set hB 2 _)
    have hg2 := gtrans hg1 (gset w1 ⟨g, 2, none⟩ (.bool true))
    clear q0 q1 q2 f0 f1 f2 hB hS1 hg1
    generalize w1.setCell ⟨g, 2, none⟩ (.bool true) = w2 at *
    go_loopw [6, 7] (fun x i wr => x = .slice none 0 0 ∧ i = .int .i64 0 ∧ wr = w2) (fun _ i _ => 1 - (intOf i).toNat)
    case atStart => exact ⟨rfl, rfl, rfl⟩
    case round =>
      obtain ⟨rfl, rfl, rfl⟩ := hrel
      obtain ⟨p2, bad2, hB, hst⟩ := id hS2.blk
      have hb2 : bad2 = true := by
        cases bad2 with
        | true => rfl
        | false => cases hst
      subst hb2
      obtain ⟨q0, q1, q2, f0, f1, f2⟩ := blk3 hB
      go_wp2_with fail
      go_ret
      exact ⟨_, [], _, rfl, OwnV.nil _, hS2, .inr ⟨HC3.out, rfl⟩, by simpa using hm, by simp, hg2⟩
  · have hle : (n : Int) ≤ most := by omega
    have HC3 := Lib.hid (HC.out hle)
    clear HC HC2
    clear q0 q1 q2 f0 f1 f2 hB
    have hN0 := NumsIn.start b n (stO bad p)
    generalize stO bad p = st1 at *
    go_wp2_with fail
    go_loopw [6, 7] (fun x i wr => ∃ (j k : Nat) (l : List Int) (st2 : Option Int), i = .int .i64 (j : Int) ∧ j + k = n ∧ OwnV iv 3 W.heap.size wr x l ∧ RS 100 w0 wr g y b st2 ∧ NumsIn b n k st1 l st2 ∧ W.grownBy wr (some g)) (fun _ i _ => n - (intOf i).toNat)
    case atStart => exact ⟨0, n, [], st1, rfl, by omega, OwnV.nil _, hS1, hN0, hg1⟩
    case round =>
      clear hS1 hg1 hN0
      obtain ⟨j, k, l, st2, rfl, hjk, ho, hS2, hN, hg⟩ := hrel
      have hlen := hN.len
      obtain ⟨p, bad, hB, rfl⟩ := id hS2.blk
      obtain ⟨q0, q1, q2, f0, f1, f2⟩ := blk3 hB
      have HN := Lib.hid hN
      clear hN
      rcases k with _ | k
      · have hj : ¬ (j : Int) < (n : Int) := by omega
        go_wp2_with fail
        go_ret
        refine ⟨_, l, _, rfl, ho, hS2, by rw [← HC3.out]; exact HN.out.done, by omega, HN.out.ok, hg⟩
      · have hk : (j : Int) < (n : Int) := by omega
        cases bad with
        | true =>
          go_wp2_with fail
          go_ret
          refine ⟨_, l, _, rfl, ho, hS2, by rw [← HC3.out]; exact HN.out.bad, by omega, HN.out.ok, hg⟩
        | false =>
          have HN2 := Lib.hid (HN.out.step)
          go_wp2_with fail
          refine (rfInt_any w0 wr g y b _ hS2 hl).mono ?_
          rintro e w3 ⟨rfl, hS3, hg3⟩
          change RS _ _ _ _ _ _ (numR b (some p)).2 at hS3
          change Hid (NumsIn b n k st1 (l ++ [(numR b (some p)).1]) (numR b (some p)).2) at HN2
          rw [show numR b (stO false p) = numR b (some p) from rfl]
          generalize (numR b (some p)).1 = x at *
          generalize (numR b (some p)).2 = st3 at *
          have hne := ho.ne_blk hB (by decide)
          have ho3 := ho.kept hg3 (.inr hne)
          have hgg := gtrans hg hg3
          have hsz := hgg.size
          have hX := (Ext.refl w3).alloc (.cells #[.int .i64 x] 3)
          go_wp2_with (at_builtin; go_must (refine wpList_appendV elem_int (fun _ => rfl) rfl (.tmp 28) (.tmp 31) rfl W.heap.size _ l rfl (ho3.ext hX) _ [x] rfl (OwnV_new (f := iv) w3 x _).inV (by simp; omega) (by omega) (by simp; omega) (Hold.out ?_)))
          refine Hold.mk fun v4 w4 ho4 hg4 => ?_
          have hS4 := (hS3.grow hX).far hg4.grown (fun e => hne e.symm) (fun k hk => by have := ho.ge k hk; have := hS.ge; have := (World.grownBy.size hg); have := hS.ext.size; omega)
          have hgg4 := gnew (gtrans hgg (hX.grownBy _)) hg4.grown ho.ge
          go_wp2_with fail
          go_roundw
          case rel => exact ⟨j + 1, k, l ++ [x], st3, by go_num, by omega, ho4, hS4, HN2.out, hgg4⟩
          case measure => simp [intOf]; omega

theorem made_list (z : Value) (n : Nat) : (madeCells #[z] n).toList = List.replicate n z := by
  apply List.ext_getElem
  · simp [madeCells]
  · intro i h1 h2
    simp [madeCells, Nat.mod_one]
/-- exactly n numbers -/
def exR (b : List UInt8) (n p : Int) : Option (List Int × Int) := (listR b n p).bind fun r => if (r.1.length : Int) = n then some r else none
def ExPost (t : TypeId) (w0 W : World) (g : Nat) (y : Value) (b : List UInt8) (n : Int) (st : Option Int) (e : Ending) (W' : World) : Prop :=
  ∃ z l st', e = .returned z ∧ OwnV iv 3 W.heap.size W' z l ∧ RS t w0 W' g y b st' ∧ ListIs (st.bind (exR b n)) l st' ∧ (l.length : Int) = n ∧ (∀ x ∈ l, I64 x) ∧ W.grownBy W' (some g)
theorem ex_of {b : List UInt8} {n : Int} {st st' : Option Int} {l : List Int} (h : ListIs (st.bind (listR b n)) l st') (hn : (l.length : Int) = n) : ListIs (st.bind (exR b n)) l st' := by
  rcases st with _ | p
  · exact h
  · rcases h with ⟨q, h1, rfl⟩ | ⟨h1, rfl⟩
    · exact .inl ⟨q, by simp only [Option.bind_some] at h1; simp [exR, h1, hn], rfl⟩
    · exact .inr ⟨by simp only [Option.bind_some] at h1; simp [exR, h1], rfl⟩
theorem ex_not {b : List UInt8} {n : Int} {st st' : Option Int} {l m : List Int} (h : ListIs (st.bind (listR b n)) l st') (hn : ¬ (l.length : Int) = n) : ListIs (st.bind (exR b n)) m none := by
  rcases st with _ | p
  · exact .inr ⟨rfl, rfl⟩
  · rcases h with ⟨q, h1, rfl⟩ | ⟨h1, rfl⟩
    · exact .inr ⟨by simp only [Option.bind_some] at h1; simp [exR, h1, hn], rfl⟩
    · exact .inr ⟨by simp only [Option.bind_some] at h1; simp [exR, h1], rfl⟩
set_option maxHeartbeats 4000000 in
set_option maxRecDepth 100000 in
theorem rdExactly_any (w0 W : World) (g : Nat) (y : Value) (b : List UInt8) (st : Option Int) (n : Nat) (hm2 : n ≤ 1000000) (hS : RS 76 w0 W g y b st) (hl : b.length ≤ 4294967296) :
    Calls Try.prog 40 #[.pointer (some ⟨g, 0, none⟩), .int .i64 (n : Int)] W (ExPost 76 w0 W g y b n st) := by
  go_enter Try.func40, Try.ntmps40
  go_wp2_with fail
  refine (rdList_any w0 W g y b st (n : Int) (by omega) (by omega) hS hl).mono ?_
  rintro e w1 ⟨z, l, st1, rfl, ho, hS1, hI, hle, hok, hg⟩
  obtain ⟨A, c, rfl, _, _⟩ := ho.inV
  by_cases h : l.length = n
  · have e0 : ((l.length : Int) == (n : Int)) = true := by simp; omega
    have H := Lib.hid h
    clear h
    have HI := Lib.hid hI
    clear hI
    go_wp2_with fail
    go_ret
    exact ⟨_, l, st1, rfl, ho, hS1, ex_of HI.out (by rw [H.out]), by rw [H.out], hok, hg⟩
  · have e0 : ((l.length : Int) == (n : Int)) = false := by simp; omega
    have H := Lib.hid h
    clear h
    have HI := Lib.hid hI
    clear hI
    obtain ⟨p, bad, hB, rfl⟩ := id hS1.blk
    obtain ⟨q0, q1, q2, f0, f1, f2⟩ := blk3 hB
    have hlt := World.block_lt_of_cell? _ _ q0
    simp only at hlt
    have hS2 := hS1.put (p := p) (bad := true) (gset _ ⟨g, 2, none⟩ _) (blk_set hB 2 _)
    have hg2 := gtrans hg (gset w1 ⟨g, 2, none⟩ (.bool true))
    have hmk := run_make_row' (P := Try.prog) 26 3 _ _ Try.underlying26 int_info rfl .i64 .i64 n (by omega) (by omega)
    go_wp2_with fail
    have hsz2 : (w1.setCell ⟨g, 2, none⟩ (.bool true)).heap.size = w1.heap.size := by simp [World.setCell]
    generalize w1.setCell ⟨g, 2, none⟩ (.bool true) = w2 at *
    go_ret
    have hX := (Ext.refl w2).alloc (.cells (madeCells #[.int .i64 0] n) 3)
    have ho2 := (OwnV_newN (f := iv) w2 (List.replicate n 0) n (by simp) hm2 (madeCells #[.int .i64 0] n) (by rw [made_list, List.map_replicate]; rfl) 3).low hg2.size
    rw [hsz2] at ho2
    exact ⟨_, _, _, rfl, ho2, hS2.grow hX, ex_not HI.out (fun e => H.out (by omega)), by simp, fun x hx => by rw [(List.mem_replicate.1 hx).2]; exact ⟨by omega, by omega⟩, gtrans hg2 (hX.grownBy _)⟩

end Go.Proofs.Ytoeibcpjmoekpaa
