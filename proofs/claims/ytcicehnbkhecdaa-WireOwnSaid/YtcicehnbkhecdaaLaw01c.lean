/- The walks of WireRows and WireMinimal. -/
import Derived.Test.YtcicehnbkhecdaaLaw01b
namespace Go.Proofs.Ytcicehnbkhecdaa
open Go.RowKit

theorem Rd.int {w : World} {A : Option Addr} {l : List Int} (h : Rd w A (l.map iv)) {k : Nat} (hk : k < l.length) : ∃ b off, A = some ⟨b, off, none⟩ ∧ w.cell? ⟨b, off + k, none⟩ = some (.int .i64 l[k]) := by
  obtain ⟨b, off, e, hc⟩ := h.at2 (k := k) (by simpa using hk)
  exact ⟨b, off, e, by rw [hc]; simp [iv]⟩
theorem int_parts : ∃ i0, Try.prog.info? 3 = some i0 ∧ i0.size = 1 := by
  have h : (Try.prog.info? 3).map (fun i => i.size) = some 1 := by kernel_rfl
  cases hi : Try.prog.info? 3 with
  | none => rw [hi] at h; cases h
  | some i => rw [hi] at h; exact ⟨i, rfl, by simpa using h⟩
theorem preI {w : World} {x : Value} {l : List Int} (hx : InI w x l) (hi : Nat) (h2 : hi ≤ l.length) :
    ∃ A c, (∀ W, (Instr.slice 29 x none (some (.int .i64 (hi : Int))) none).run Try.prog W = .ok (.slice A hi c) W) ∧ InI w (.slice A hi c) (l.take hi) := by
  obtain ⟨i0, hi0, hs⟩ := int_parts
  exact InV.pre Try.underlying29 hi0 hs hx hi h2

/-- numbers one behind the other -/
def flatI (l : List Int) : List UInt8 := l.flatMap fun v => leb (zig v)
theorem flatI_snoc {l : List Int} {k : Nat} (h : k < l.length) : flatI (l.take (k + 1)) = flatI (l.take k) ++ leb (zig l[k]) := by
  unfold flatI
  rw [List.take_succ_eq_append_getElem h, List.flatMap_append]
  simp
theorem flatI_len (l : List Int) (hb : ∀ n ∈ l, -9223372036854775808 ≤ n ∧ n ≤ 9223372036854775807) : (flatI l).length ≤ 10 * l.length := by
  induction l with
  | nil => simp [flatI]
  | cons v r ih =>
    have h1 := ih (fun n hn => hb n (by simp [hn]))
    have h2 := hb v (by simp)
    have h3 := leb_len10 (zig_lt h2.1 h2.2)
    simp only [flatI, List.flatMap_cons, List.length_append, List.length_cons] at *
    omega
theorem flatI_split (l : List Int) (k : Nat) : flatI l = flatI (l.take k) ++ flatI (l.drop k) := by
  unfold flatI
  rw [← List.flatMap_append, List.take_append_drop]
theorem flatI_take_le (l : List Int) (k : Nat) : (flatI (l.take k)).length ≤ (flatI l).length := by
  rw [flatI_split l k, List.length_append]; omega
theorem rows_read {l : List Int} (hb : ∀ n ∈ l, -9223372036854775808 ≤ n ∧ n ≤ 9223372036854775807) {k : Nat} (h : k < l.length) :
    intR (flatI l) ((flatI (l.take k)).length : Int) = (l[k], ((flatI (l.take k)).length : Int) + (leb (zig l[k])).length, 0) := by
  have h1 := hb _ (List.getElem_mem h)
  have h2 := intR_leb h1.1 h1.2 (flatI (l.take k)) (flatI (l.drop (k + 1)))
  rw [flatI_split l k, List.drop_eq_getElem_cons h]
  exact h2
theorem intR_end (l : List UInt8) : intR l (l.length : Int) = (0, 0, 3) := by
  unfold intR
  rw [rdAt_of (u := 0) (n := 0) (er := 3) (Nat.le_refl _) (by rw [List.drop_of_length_le (Nat.le_refl _), rd])]
  simp [unzig]

set_option maxHeartbeats 1000000 in
set_option maxRecDepth 100000 in
theorem law_rows (x : Value) (l : List Int) (w : World) (hx : InI w x l) (hb : ∀ n ∈ l, -9223372036854775808 ≤ n ∧ n ≤ 9223372036854775807) :
    Calls Try.prog 4 #[x] w fun e w' => e = .returned (.bool true) ∧ Ext w w' := by
  by_cases h : 50 < l.length
  · obtain ⟨A0, c0, hs, hin⟩ := preI hx 50 (by omega)
    obtain ⟨A, c, rfl, hc, hr⟩ := hx
    have hs' : ∀ W, (Instr.slice 29 (.slice A l.length c) none (some (.int .i64 50)) none).run Try.prog W = .ok (.slice A0 50 c0) W := hs
    have h' : (50 : Int) < (l.length : Int) := by omega
    have hbm : ∀ n ∈ l.take 50, -9223372036854775808 ≤ n ∧ n ≤ 9223372036854775807 := fun n hn => hb n (List.mem_of_mem_take hn)
    have hml : (l.take 50).length = 50 := by simp; omega
    obtain ⟨A1, c1, e1, hc1, hrm⟩ := hin
    obtain ⟨m, Hm⟩ : ∃ m, Hid (m = l.take 50) := ⟨_, Lib.hid rfl⟩
    rw [← Hm.out] at hbm hml hrm e1
    rw [hml] at e1
    injection e1 with e1
    subst e1
    have HL := Lib.hid hml
    have Hbm := Lib.hid hbm
    clear hs hb hbm hc1 hml h
    go_enter Try.func4, Try.ntmps4
    go_wp2_with fail
    clear hs' h'
    go_loopw [3, 22] (fun b i wr => ∃ k : Nat, k ≤ 50 ∧ i = .int .i64 (k : Int) ∧ InB wr b (flatI (m.take k)) ∧ Ext w wr) (fun _ i _ => 50 - (intOf i).toNat)
    case atStart => exact ⟨0, by omega, rfl, InV.nil w, Ext.refl _⟩
    case round =>
      obtain ⟨k, hk, rfl, hinb, hex⟩ := hrel
      by_cases hlt0 : k < 50
      · have hlt : k < m.length := by have := HL.out; omega
        obtain ⟨b1, o1, rfl, hc1⟩ := (hrm.ext hex).int hlt
        have hb := Hbm.out _ (List.getElem_mem hlt)
        have hfl : (flatI (m.take k)).length ≤ 500 := by
          have := flatI_len (m.take k) (fun n hn => Hbm.out n (List.mem_of_mem_take hn))
          have h2 : (m.take k).length ≤ k := List.length_take_le _ _
          omega
        have Hfl := Lib.hid (flatI_snoc hlt)
        have hi1 : (k : Int) < (50 : Int) := by omega
        generalize m[k] = vk at *
        go_wp2_with fail
        refine (AppendInt_any _ _ vk wr hinb (by omega) hb.1 hb.2).mono ?_
        rintro e w1 ⟨y1, rfl, ho1, he1⟩
        rw [← Hfl.out] at ho1
        go_wp2_with fail
        go_roundw
        case rel => exact ⟨k + 1, by omega, by go_num, ho1.inB, hex.trans he1⟩
        case measure => simp [intOf]; omega
      · rw [List.take_of_length_le (by have := HL.out; omega)] at hinb
        have hfl : (flatI m).length ≤ 500 := by
          have := flatI_len m Hbm.out
          have := HL.out
          omega
        obtain ⟨F, HF⟩ : ∃ F, Hid (F = flatI m) := ⟨_, Lib.hid rfl⟩
        rw [← HF.out] at hinb hfl
        obtain ⟨B, d, rfl, hd, hrb⟩ := hinb
        have hinb : InB wr (.slice B F.length d) F := ⟨B, d, rfl, hd, hrb⟩
        clear hrb
        go_wp2_with fail
        have hex1 := hex
        clear hex hlt0 hk
        obtain ⟨wo, rfl⟩ : ∃ wo : World, wo = wr := ⟨_, rfl⟩
        go_loopw [6, 32] (fun a i wr2 => ∃ k : Nat, k ≤ 50 ∧ i = .int .i64 (k : Int) ∧ a = .int .i64 ((flatI (m.take k)).length : Int) ∧ Ext wo wr2) (fun _ i _ => 50 - (intOf i).toNat)
        case atStart => exact ⟨0, by omega, rfl, rfl, Ext.refl _⟩
        case round =>
          obtain ⟨k, hk, rfl, rfl, hex⟩ := hrel
          by_cases hlt0 : k < 50
          · have hlt : k < m.length := by have := HL.out; omega
            obtain ⟨b1, o1, rfl, hc1⟩ := (hrm.ext (hex1.trans hex)).int hlt
            have hb := Hbm.out _ (List.getElem_mem hlt)
            have hR := rows_read Hbm.out hlt
            have hpos := leb_pos (zig m[k])
            have hp10 := leb_len10 (zig_lt hb.1 hb.2)
            have Hsn := Lib.hid (congrArg List.length (flatI_snoc hlt))
            have hi1 : (k : Int) < (50 : Int) := by omega
            have hle : (flatI (m.take k)).length ≤ F.length := by rw [HF.out]; exact flatI_take_le m k
            rw [← HF.out] at hR
            have HR := Lib.hid hR
            clear hR
            generalize m[k] = vk at *
            obtain ⟨a, Ha⟩ : ∃ a, Hid (a = (flatI (m.take k)).length) := ⟨_, Lib.hid rfl⟩
            rw [← Ha.out] at hle HR ⊢
            go_wp2_with fail
            refine (Int_any _ F _ wr (hinb.ext hex) (by omega)).mono ?_
            rintro e w1 ⟨rfl, he1⟩
            rw [HR.out]; simp only
            have hneq : (vk != vk) = false := by simp
            go_wp2_with fail
            go_roundw
            case rel => exact ⟨k + 1, by omega, by go_num, by have h1 := Hsn.out; have h2 := Ha.out; simp only [List.length_append] at h1; rw [h1, ← h2]; go_num, hex.trans he1⟩
            case measure => simp [intOf]; omega
          · have ha : (flatI (m.take k)).length = F.length := by rw [List.take_of_length_le (by have := HL.out; omega), HF.out]
            rw [ha]
            have HR : Hid (intR F (F.length : Int) = (0, 0, 3)) := Lib.hid (intR_end F)
            go_wp2_with fail
            refine (Int_any _ F _ wr (hinb.ext hex) (by omega)).mono ?_
            rintro e w1 ⟨rfl, he1⟩
            rw [HR.out]; simp only
            go_wp2_with fail
            refine (known_any w1).mono ?_
            rintro e w5 ⟨rfl, he5⟩
            go_wp2_with fail
            go_ret
            exact ⟨rfl, ((hex1.trans hex).trans he1).trans he5⟩
  · obtain ⟨A, c, rfl, hc, hrm⟩ := hx
    have h' : ¬ (50 : Int) < (l.length : Int) := by omega
    obtain ⟨m, rfl⟩ : ∃ m, m = l := ⟨_, rfl⟩
    have HL : Hid (m.length = m.length) := Lib.hid rfl
    have Hbm := Lib.hid hb
    clear hb
    go_enter Try.func4, Try.ntmps4
    go_wp2_with fail
    go_loopw [3, 22] (fun b i wr => ∃ k : Nat, k ≤ m.length ∧ i = .int .i64 (k : Int) ∧ InB wr b (flatI (m.take k)) ∧ Ext w wr) (fun _ i _ => m.length - (intOf i).toNat)
    case atStart => exact ⟨0, by omega, rfl, InV.nil w, Ext.refl _⟩
    case round =>
      obtain ⟨k, hk, rfl, hinb, hex⟩ := hrel
      by_cases hlt0 : k < m.length
      · have hlt : k < m.length := by have := HL.out; omega
        obtain ⟨b1, o1, rfl, hc1⟩ := (hrm.ext hex).int hlt
        have hb := Hbm.out _ (List.getElem_mem hlt)
        have hfl : (flatI (m.take k)).length ≤ 500 := by
          have := flatI_len (m.take k) (fun n hn => Hbm.out n (List.mem_of_mem_take hn))
          have h2 : (m.take k).length ≤ k := List.length_take_le _ _
          omega
        have Hfl := Lib.hid (flatI_snoc hlt)
        have hi1 : (k : Int) < (m.length : Int) := by omega
        generalize m[k] = vk at *
        go_wp2_with fail
        refine (AppendInt_any _ _ vk wr hinb (by omega) hb.1 hb.2).mono ?_
        rintro e w1 ⟨y1, rfl, ho1, he1⟩
        rw [← Hfl.out] at ho1
        go_wp2_with fail
        go_roundw
        case rel => exact ⟨k + 1, by omega, by go_num, ho1.inB, hex.trans he1⟩
        case measure => simp [intOf]; omega
      · rw [List.take_of_length_le (by have := HL.out; omega)] at hinb
        have hfl : (flatI m).length ≤ 500 := by
          have := flatI_len m Hbm.out
          have := HL.out
          omega
        obtain ⟨F, HF⟩ : ∃ F, Hid (F = flatI m) := ⟨_, Lib.hid rfl⟩
        rw [← HF.out] at hinb hfl
        obtain ⟨B, d, rfl, hd, hrb⟩ := hinb
        have hinb : InB wr (.slice B F.length d) F := ⟨B, d, rfl, hd, hrb⟩
        clear hrb
        go_wp2_with fail
        have hex1 := hex
        clear hex hlt0 hk
        obtain ⟨wo, rfl⟩ : ∃ wo : World, wo = wr := ⟨_, rfl⟩
        go_loopw [6, 32] (fun a i wr2 => ∃ k : Nat, k ≤ m.length ∧ i = .int .i64 (k : Int) ∧ a = .int .i64 ((flatI (m.take k)).length : Int) ∧ Ext wo wr2) (fun _ i _ => m.length - (intOf i).toNat)
        case atStart => exact ⟨0, by omega, rfl, rfl, Ext.refl _⟩
        case round =>
          obtain ⟨k, hk, rfl, rfl, hex⟩ := hrel
          by_cases hlt0 : k < m.length
          · have hlt : k < m.length := by have := HL.out; omega
            obtain ⟨b1, o1, rfl, hc1⟩ := (hrm.ext (hex1.trans hex)).int hlt
            have hb := Hbm.out _ (List.getElem_mem hlt)
            have hR := rows_read Hbm.out hlt
            have hpos := leb_pos (zig m[k])
            have hp10 := leb_len10 (zig_lt hb.1 hb.2)
            have Hsn := Lib.hid (congrArg List.length (flatI_snoc hlt))
            have hi1 : (k : Int) < (m.length : Int) := by omega
            have hle : (flatI (m.take k)).length ≤ F.length := by rw [HF.out]; exact flatI_take_le m k
            rw [← HF.out] at hR
            have HR := Lib.hid hR
            clear hR
            generalize m[k] = vk at *
            obtain ⟨a, Ha⟩ : ∃ a, Hid (a = (flatI (m.take k)).length) := ⟨_, Lib.hid rfl⟩
            rw [← Ha.out] at hle HR ⊢
            go_wp2_with fail
            refine (Int_any _ F _ wr (hinb.ext hex) (by omega)).mono ?_
            rintro e w1 ⟨rfl, he1⟩
            rw [HR.out]; simp only
            have hneq : (vk != vk) = false := by simp
            go_wp2_with fail
            go_roundw
            case rel => exact ⟨k + 1, by omega, by go_num, by have h1 := Hsn.out; have h2 := Ha.out; simp only [List.length_append] at h1; rw [h1, ← h2]; go_num, hex.trans he1⟩
            case measure => simp [intOf]; omega
          · have ha : (flatI (m.take k)).length = F.length := by rw [List.take_of_length_le (by have := HL.out; omega), HF.out]
            rw [ha]
            have HR : Hid (intR F (F.length : Int) = (0, 0, 3)) := Lib.hid (intR_end F)
            go_wp2_with fail
            refine (Int_any _ F _ wr (hinb.ext hex) (by omega)).mono ?_
            rintro e w1 ⟨rfl, he1⟩
            rw [HR.out]; simp only
            go_wp2_with fail
            refine (known_any w1).mono ?_
            rintro e w5 ⟨rfl, he5⟩
            go_wp2_with fail
            go_ret
            exact ⟨rfl, ((hex1.trans hex).trans he1).trans he5⟩
end Go.Proofs.Ytcicehnbkhecdaa
