/- Contracts of the functions that compare values (layers 31 and 41). -/
import Derived.Test.YtmabaldbilkcjaaProg
import Derived.Test.YtmabaldbilkcjaaBase
namespace Go.Proofs.Ytmabaldbilkcjaa
open Go.RowKit

/-- a value of the debugger -/
structure Dat where
  kind : Int
  record : Int
  known : List Bool
  words : List Int

def DatAt (w : World) (v : Value) (d : Dat) : Prop := ∃ x y, v = .agg #[.int .i64 d.kind, .int .i64 d.record, x, y] ∧ InBl w x d.known ∧ InI w y d.words
theorem DatAt.ext {w w' : World} {v : Value} {d : Dat} (h : DatAt w v d) (he : Ext w w') : DatAt w' v d := by
  obtain ⟨x, y, rfl, hx, hy⟩ := h
  exact ⟨x, y, rfl, hx.ext he, hy.ext he⟩

theorem Rd.int {w : World} {A : Option Addr} {l : List Int} (h : Rd w A (l.map iv)) {k : Nat} (hk : k < l.length) : ∃ b off, A = some ⟨b, off, none⟩ ∧ w.cell? ⟨b, off + k, none⟩ = some (.int .i64 l[k]) := by
  obtain ⟨b, off, e, hc⟩ := h.at2 (k := k) (by simpa using hk)
  exact ⟨b, off, e, by rw [hc]; simp [iv]⟩
theorem Rd.bool {w : World} {A : Option Addr} {l : List Bool} (h : Rd w A (l.map Value.bool)) {k : Nat} (hk : k < l.length) : ∃ b off, A = some ⟨b, off, none⟩ ∧ w.cell? ⟨b, off + k, none⟩ = some (.bool l[k]) := by
  obtain ⟨b, off, e, hc⟩ := h.at2 (k := k) (by simpa using hk)
  exact ⟨b, off, e, by rw [hc]; simp⟩
theorem take_step {α : Type} {l m : List α} {k : Nat} (h : l.take k = m.take k) (h1 : k < l.length) (h2 : k < m.length) (h3 : l[k] = m[k]) : l.take (k + 1) = m.take (k + 1) := by
  rw [List.take_succ_eq_append_getElem h1, List.take_succ_eq_append_getElem h2, h, h3]

set_option maxRecDepth 100000 in
theorem equalBools_any (x y : Value) (l m : List Bool) (w : World) (hx : InBl w x l) (hy : InBl w y m) (hl : l.length ≤ 4294967296) (hm : m.length ≤ 4294967296) :
    Calls Try.prog 15 #[x, y] w fun e w' => e = .returned (.bool (decide (l = m))) ∧ ∃ n, w' = w.drewN n := by
  obtain ⟨A, c, rfl, _, hr⟩ := hx
  obtain ⟨B, d, rfl, _, hs⟩ := hy
  by_cases hne : l.length = m.length
  · have hb : ((l.length : Int) != (m.length : Int)) = false := by simp [hne]
    have Hn := Lib.hid hne
    clear hne
    go_enter Try.func15, Try.ntmps15
    go_wp2_with fail
    clear hb
    go_loopw [13] (fun i wr => ∃ k n : Nat, k ≤ l.length ∧ i = .int .i64 (k : Int) ∧ l.take k = m.take k ∧ wr = w.drewN n) (fun i _ => l.length - (intOf i).toNat)
    case atStart => exact ⟨0, 0, Nat.zero_le _, rfl, rfl, rfl⟩
    case round =>
      obtain ⟨k, n, hk, rfl, htk, rfl⟩ := hrel
      have Htk := Lib.hid htk
      clear htk
      by_cases hlt : k < l.length
      · have hlt2 : k < m.length := by have := Hn.out; omega
        obtain ⟨b1, o1, rfl, hc1⟩ := hr.bool hlt
        obtain ⟨b2, o2, rfl, hc2⟩ := hs.bool hlt2
        have hi1 : (k : Int) < (l.length : Int) := by omega
        have hi2 : (k : Int) < (m.length : Int) := by omega
        have HE : Hid (l[k] = m[k] → l[k] = m[k]) := Lib.hid id
        have HF : Hid (l[k] ≠ m[k] → l ≠ m) := Lib.hid fun h e => by subst e; exact h rfl
        obtain ⟨v1, hv1⟩ : ∃ v1, v1 = l[k] := ⟨_, rfl⟩
        obtain ⟨v2, hv2⟩ : ∃ v2, v2 = m[k] := ⟨_, rfl⟩
        rw [← hv1] at hc1
        rw [← hv2] at hc2
        have HE' : Hid (v1 = v2 → l[k] = m[k]) := by rw [hv1, hv2]; exact HE
        have HF' : Hid (v1 ≠ v2 → l ≠ m) := by rw [hv1, hv2]; exact HF
        clear HE HF hv1 hv2
        by_cases hv : v1 = v2
        · subst hv
          have HE := Lib.hid (HE'.out rfl)
          clear HE' HF'
          cases v1
          all_goals
            go_wp2_with fail
            go_quiet (fail)
            go_wp2_with fail
            go_roundw
            case rel => exact ⟨k + 1, _, by omega, by go_num, take_step Htk.out hlt hlt2 HE.out, rfl⟩
            case measure => simp [intOf]; omega
        · have HF := Lib.hid (HF'.out hv)
          clear HE' HF'
          cases v1 <;> cases v2
          · exact absurd rfl hv
          · clear hv
            go_wp2_with fail
            go_quiet (fail)
            go_wp2_with fail
            go_ret
            exact ⟨by rw [decide_eq_false HF.out]; rfl, _, World.drewN_drewN _ _ _⟩
          · clear hv
            go_wp2_with fail
            go_quiet (fail)
            go_wp2_with fail
            go_ret
            exact ⟨by rw [decide_eq_false HF.out]; rfl, _, World.drewN_drewN _ _ _⟩
          · exact absurd rfl hv
      · go_wp2_with fail
        go_ret
        have e : l = m := by
          have h1 := Htk.out
          rw [List.take_of_length_le (by omega), List.take_of_length_le (by have := Hn.out; omega)] at h1
          exact h1
        exact ⟨by rw [decide_eq_true e]; rfl, n, rfl⟩
  · have hb : ((l.length : Int) != (m.length : Int)) = true := by simp; omega
    have HE : Hid (l ≠ m) := Lib.hid fun e => hne (by rw [e])
    clear hne
    go_enter Try.func15, Try.ntmps15
    go_wp2_with fail
    go_ret
    exact ⟨by rw [decide_eq_false HE.out]; rfl, 0, rfl⟩

/-- two values are the same, known words and unknown ones -/
def sameW (a b : Dat) : Prop := ∀ j, j < a.words.length → a.known.getD j true = true → a.words[j]? = b.words[j]?
/-- the call answers whether p holds -/
def Tells (p : Prop) (w : World) (e : Ending) (w' : World) : Prop := ∃ r : Bool, e = .returned (.bool r) ∧ (r = true ↔ p) ∧ Ext w w'
theorem Tells.yes {p : Prop} {w w' : World} (hp : p) (he : Ext w w') : Tells p w (.returned (.bool true)) w' := ⟨true, rfl, ⟨fun _ => hp, fun _ => rfl⟩, he⟩
theorem Tells.no {p : Prop} {w w' : World} (hp : ¬ p) (he : Ext w w') : Tells p w (.returned (.bool false)) w' := ⟨false, rfl, ⟨(fun h => by cases h), fun h => absurd h hp⟩, he⟩
def sameD (a b : Dat) : Prop := a.kind = b.kind ∧ a.record = b.record ∧ a.known = b.known ∧ a.words.length = b.words.length ∧ sameW a b
end Go.Proofs.Ytmabaldbilkcjaa
