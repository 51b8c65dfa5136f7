/- The tables that the statements make from numbers: positive. -/
import Derived.Test.YtokmbdeafjmcjaaLinM
namespace Go.Proofs.Ytokmbdeafjmcjaa
open Go.RowKit
set_option linter.unusedVariables false

theorem elem_int : Elem1 Try.prog 23 3 8 := by
  rcases hi : Try.prog.info? 3 with _ | i
  · have := int_info; rw [hi] at this; cases this
  · have := int_info
    rw [hi] at this
    simp only [Option.map_some, Option.some.injEq, Prod.mk.injEq] at this
    exact ⟨Try.underlying23, i, _, hi, this.1, this.2.1, this.2.2, rfl⟩
def PosPost (w : World) (en : Ending) (w' : World) : Prop := ∃ y p, en = .returned y ∧ OwnV iv 3 w.heap.size w' y p ∧ p.length ≤ 120 ∧ (∀ n ∈ p, 0 ≤ n ∧ n < 1048576) ∧ Ext w w'
set_option maxHeartbeats 4000000 in
set_option maxRecDepth 100000 in
theorem positive_any (x : Value) (l : List Int) (w : World) (hx : InI w x l) : Calls Try.prog 54 #[x] w (PosPost w) := by
  obtain ⟨A, c, rfl, _, hr⟩ := hx
  go_enter Try.func54, Try.ntmps54
  go_wp2_with fail
  go_loopw [3, 4] (fun v i wr => ∃ p : List Int, p.length ≤ l.length ∧ p.length ≤ 120 ∧ i = .int .i64 (p.length : Int) ∧ OwnV iv 3 w.heap.size wr v p ∧ Hid (∀ n ∈ p, 0 ≤ n ∧ n < 1048576) ∧ Ext w wr) (fun _ i _ => 120 - (intOf i).toNat)
  case atStart => exact ⟨[], by simp, by simp, rfl, OwnV.nil _, Lib.hid (by simp), Ext.refl _⟩
  case round =>
    obtain ⟨p, hpl, hp, rfl, ho, HP, hX⟩ := hrel
    obtain ⟨wo, rfl⟩ : ∃ wo : World, wo = wr := ⟨_, rfl⟩
    obtain ⟨V, cv, hv, _, _⟩ := ho.inV
    obtain ⟨j, hj⟩ : ∃ j, j = p.length := ⟨_, rfl⟩
    rw [← hj] at hv hpl hp ⊢
    subst hv
    have HJ := Lib.hid hj
    clear hj
    go_upto_region 3 with fail
    go_cut [12] (fun s wx => ∃ d : Bool, s = .bool d ∧ (d = true ↔ j < l.length ∧ j < 120) ∧ wx = wo)
    case first =>
      by_cases h1 : j < l.length
      · have d1 : decide ((j : Int) < (l.length : Int)) = true := by simp; omega
        by_cases h2 : j < 120
        · have d2 : decide ((j : Int) < 120) = true := by simp; omega
          go_wp2_with fail
          go_meet
          exact ⟨true, rfl, by simp [h1, h2], rfl⟩
        · have d2 : decide ((j : Int) < 120) = false := by simp; omega
          go_wp2_with fail
          go_meet
          exact ⟨false, rfl, by simp [h2], rfl⟩
      · have d1 : decide ((j : Int) < (l.length : Int)) = false := by simp; omega
        go_wp2_with fail
        go_meet
        exact ⟨false, rfl, by simp [h1], rfl⟩
    obtain ⟨d, rfl, hd, rfl⟩ := hcut
    cases d with
    | true =>
      obtain ⟨h1, h2⟩ := hd.1 rfl
      clear hd
      have hij : (j : Int) < (l.length : Int) := by omega
      obtain ⟨bb, oo, rfl, hcell⟩ := (hr.ext hX).at2 (k := j) (by simpa using h1)
      have hcell' : wc.cell? ⟨bb, oo + j, none⟩ = some (.int .i64 l[j]) := by rw [hcell]; simp [iv]
      generalize l[j] = lj at *
      clear hcell
      go_wp2_with fail
      refine (Mod_any lj 1048576 wc (by omega) (by omega)).mono ?_
      rintro en wm ⟨rfl, rfl⟩
      obtain ⟨m, hm, hmr⟩ : ∃ m : Int, lj % 1048576 = m ∧ 0 ≤ m ∧ m < 1048576 := ⟨_, rfl, by omega, by omega⟩
      rw [hm]
      clear hm hcell'
      have hA := (Ext.refl wc).alloc (.cells #[.int .i64 m] 3)
      have hin : InV iv (wc.alloc (.cells #[.int .i64 m] 3)) (.slice (some ⟨wc.heap.size, 0, none⟩) 1 1) [m] := (OwnV_new (f := iv) wc m 3).inV
      have hsz := (hX.trans hA).size
      go_wp2_with (at_builtin; go_must (refine wpList_appendV elem_int (fun _ => rfl) rfl (.tmp 15) (.tmp 21) rfl w.heap.size _ p rfl (ho.ext hA) _ [m] rfl hin (by have := HJ.out; simp only [List.length_cons, List.length_nil]; omega) (by omega) hsz (Hold.out ?_)))
      refine Hold.mk fun v9 w9 ho9 hg9 => ?_
      have hX9 : Ext w w9 := hg9.ext (hX.trans hA) ho.ge
      have HP9 : Hid (∀ n ∈ p ++ [m], 0 ≤ n ∧ n < 1048576) := Lib.hid (fun n hn => by
        rcases List.mem_append.1 hn with hn | hn
        · exact HP.out n hn
        · simp only [List.mem_singleton] at hn
          subst hn
          exact hmr)
      have hlp : (p ++ [m]).length = j + 1 := by have := HJ.out; simp only [List.length_append, List.length_cons, List.length_nil]; omega
      have HLP := Lib.hid hlp
      clear hA hin hsz hg9 ho hX hlp
      go_wp2_with fail
      go_roundw
      case rel => exact ⟨p ++ [m], by rw [HLP.out]; omega, by rw [HLP.out]; omega, by rw [HLP.out]; first | (with_reducible rfl) | go_num, ho9, HP9, hX9⟩
      case measure => simp [intOf]; omega
    | false =>
      clear hd
      go_wp2_with fail
      refine bodyPost_ret (by simp [results, Try.results54, go_sem]; rfl) rfl ?_
      exact ⟨_, p, rfl, ho, by have := HJ.out; omega, HP.out, hX⟩
end Go.Proofs.Ytokmbdeafjmcjaa
