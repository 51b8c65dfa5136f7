/- The walk of WireMinimal. -/
import Derived.Test.YtcicehnbkhecdaaLaw01c
namespace Go.Proofs.Ytcicehnbkhecdaa
open Go.RowKit

theorem OwnB.form {base : Nat} {w : World} {v : Value} {l : List UInt8} (h : OwnB base w v l) (h0 : 0 < l.length) :
    ∃ g cap, v = .slice (some ⟨g, 0, none⟩) l.length cap ∧ base ≤ g ∧ g < w.heap.size := by
  rcases h.2 with ⟨rfl, hn⟩ | ⟨g, cap, cur, rfl, hb, hg, _⟩
  · omega
  · refine ⟨g, cap, rfl, hb, ?_⟩
    rcases Nat.lt_or_ge g w.heap.size with h | h
    · exact h
    · rw [Array.getElem?_eq_none h] at hg; cases hg
/-- b[j] = u on a row of the call's own -/
theorem OwnB.put {base : Nat} {w : World} {g n cap : Nat} {l : List UInt8} (h : OwnB base w (.slice (some ⟨g, 0, none⟩) n cap) l) (hn : n = l.length) (j : Nat) (u : UInt8) :
    OwnB base (w.setCell ⟨g, j, none⟩ (bv u)) (.slice (some ⟨g, 0, none⟩) n cap) (l.set j u) ∧ w.grownBy (w.setCell ⟨g, j, none⟩ (bv u)) (some g) := by
  subst hn
  have h' : w.ownsRow base 5 1 (.slice (some ⟨g, 0, none⟩) l.length cap) l.length (l.map bv) := h
  obtain ⟨h1, h2⟩ := World.ownsRow.stored h' j (bv u)
  refine ⟨?_, h2⟩
  unfold OwnB
  rw [List.length_set, List.map_set]
  exact h1
theorem OwnB.at_ {base : Nat} {w : World} {g n cap : Nat} {l : List UInt8} (h : OwnB base w (.slice (some ⟨g, 0, none⟩) n cap) l) (hn : n = l.length) (j : Nat) (hj : j < l.length) :
    w.cell? ⟨g, j, none⟩ = some (.int .u8 (l[j].toNat : Int)) ∧ w.frozen? ⟨g, j, none⟩ = false := by
  subst hn
  have h' : w.ownsRow base 5 1 (.slice (some ⟨g, 0, none⟩) l.length cap) l.length (l.map bv) := h
  refine ⟨?_, World.ownsRow.frozenAt h' j⟩
  rw [World.ownsRow.cellAt h' j (by omega), List.getElem?_map, List.getElem?_eq_getElem hj]
  rfl

theorem min_uint (l : List UInt8) (h : ∀ c ∈ l, 128 ≤ c.toNat) (h0 : 0 < l.length) (hl : l.length < 8) : uintR (l ++ [0]) 0 = (0, 0, 4) := by
  unfold uintR
  rw [show (0 : Int) = ((0 : Nat) : Int) from rfl, rdAt_of (u := 0) (n := 0) (er := 4) (Nat.zero_le _) (by rw [List.drop_zero]; exact rd_minimal 8 127 l h h0 hl)]
  rfl
theorem min_int (l : List UInt8) (h : ∀ c ∈ l, 128 ≤ c.toNat) (h0 : 0 < l.length) (hl : l.length < 8) : intR (l ++ [0]) 0 = (0, 0, 4) := by
  unfold intR
  rw [show (0 : Int) = ((0 : Nat) : Int) from rfl, rdAt_of (u := 0) (n := 0) (er := 4) (Nat.zero_le _) (by rw [List.drop_zero]; exact rd_minimal 9 1 l h h0 (by omega))]
  simp [unzig]

set_option maxHeartbeats 1000000 in
set_option maxRecDepth 100000 in
theorem law_minimal (v more : Int) (w : World) :
    Calls Try.prog 3 #[.int .i64 v, .int .i64 more] w fun e w' => e = .returned (.bool true) ∧ Ext w w' := by
  obtain ⟨U, hU, eU⟩ := and_i64_mask v 1099511627775 (by omega)
  have eU' : bits .and .i64 v 1099511627775 = (U : Int) := eU
  obtain ⟨q, hq, eq⟩ := and_i64_mask more 1 (by omega)
  have eq' : bits .and .i64 more 1 = (q : Int) := eq
  clear eU eq
  have hlen : (leb U).length ≤ 6 := leb_len 5 U (by omega)
  obtain ⟨ii, z, el, hz, hii⟩ := leb_init U
  have hu : uintB (U : Int) = ii ++ [z] := by unfold uintB; rw [if_neg (by omega), Int.toNat_natCast, el]
  have hl6 : ii.length ≤ 5 := by rw [el] at hlen; simp at hlen; omega
  have HU := Lib.hid hu
  have Hii := Lib.hid hii
  clear hu el hlen hii
  go_enter Try.func3, Try.ntmps3
  go_wp2_with fail
  refine (AppendUint_any _ [] _ w (InV.nil w) (by simp) (by omega)).mono ?_
  rintro e w1 ⟨y1, rfl, ho1, he1⟩
  rw [HU.out, List.nil_append] at ho1
  obtain ⟨g, cap, rfl, hg1, hg2⟩ := ho1.form (by simp)
  obtain ⟨hc, hf⟩ := ho1.at_ rfl ii.length (by simp)
  obtain ⟨hst, hgr⟩ := ho1.put rfl ii.length (UInt8.ofNat (z.toNat + 128))
  have e1 : (ii ++ [z]).length = ii.length + 1 := by simp
  have e2 : (ii ++ [z]).set ii.length (UInt8.ofNat (z.toNat + 128)) = ii ++ [UInt8.ofNat (z.toNat + 128)] := by simp
  have e3 : (ii ++ [z])[ii.length]'(by simp) = z := by simp
  have e4 : bv (UInt8.ofNat (z.toNat + 128)) = .int .u8 (bits .or .u8 (z.toNat : Int) 128) := by
    have h := or128 z.toNat
    rw [show ((z.toNat : Int) % 256) = (z.toNat : Int) by omega] at h
    rw [h]; simp only [bv]; congr 1; simp; omega
  rw [e1, e2, e4] at hst
  rw [e3] at hc
  rw [e4] at hgr
  rw [e1]
  clear ho1 e1 e2 e3 e4 HU
  have heq : ((ii.length : Int) + 1 == 0) = false := by simp; omega
  go_wp2_with fail
  have he2 : Ext w (w1.setCell ⟨g, ii.length, none⟩ (.int .u8 (bits .or .u8 (z.toNat : Int) 128))) := he1.setCell hg1 _
  clear hc hf hgr heq
  generalize w1.setCell ⟨g, ii.length, none⟩ (.int .u8 (bits .or .u8 (z.toNat : Int) 128)) = w2 at *
  go_loopw [6, 7] (fun x y wr => ∃ k : Nat, k ≤ q ∧ y = .int .i64 (k : Int) ∧ OwnB w.heap.size wr x (ii ++ [UInt8.ofNat (z.toNat + 128)] ++ List.replicate k 128) ∧ Ext w wr) (fun _ y _ => q - (intOf y).toNat)
  case atStart => exact ⟨0, Nat.zero_le _, rfl, by simpa using hst, he2⟩
  case round =>
    obtain ⟨k, hk, rfl, hox, hex⟩ := hrel
    have hsz := hex.size
    by_cases hlt : k < q
    · go_wp2_with (at_builtin; go_must (refine wpList_append1B rfl (.tmp 39) (.tmp 40) rfl w.heap.size _ _ rfl wr hox _ 128 rfl rfl rfl (by simp; omega) (by omega) ?_); intro v1 w3 ho3 hg3)
      go_roundw
      case rel => exact ⟨k + 1, by omega, by go_num, by rw [List.replicate_succ']; simpa using ho3, hg3.ext hex hox.ge⟩
      case measure => simp [intOf]; omega
    · go_wp2_with (at_builtin; go_must (refine wpList_append1B rfl (.tmp 42) (.tmp 43) rfl w.heap.size _ _ rfl wr hox _ 0 rfl rfl rfl (by simp; omega) (by omega) ?_); intro v1 w3 ho3 hg3)
      have he3 := hg3.ext hex hox.ge
      have hin3 := ho3.inB
      have hall : ∀ c ∈ ii ++ [UInt8.ofNat (z.toNat + 128)] ++ List.replicate k 128, 128 ≤ c.toNat := by
        intro c hc
        simp only [List.mem_append, List.mem_singleton, List.mem_replicate] at hc
        rcases hc with (hc | rfl) | ⟨_, rfl⟩
        · exact Hii.out c hc
        · simp; omega
        · decide
      have M1 := Lib.hid (min_uint _ hall (by simp; omega) (by simp; omega))
      have M2 := Lib.hid (min_int _ hall (by simp; omega) (by simp; omega))
      have hll : (ii ++ [UInt8.ofNat (z.toNat + 128)] ++ List.replicate k 128 ++ [0]).length ≤ 100 := by simp; omega
      clear hall ho3 hst
      generalize ii ++ [UInt8.ofNat (z.toNat + 128)] ++ List.replicate k 128 ++ [0] = xs at *
      go_wp2_with fail
      refine (Uint_any _ xs 0 w3 hin3 (by omega)).mono ?_
      rintro e w4 ⟨rfl, he4⟩
      rw [M1.out]; simp only
      go_wp2_with fail
      refine (Int_any _ xs 0 w4 (hin3.ext he4) (by omega)).mono ?_
      rintro e w5 ⟨rfl, he5⟩
      rw [M2.out]; simp only
      go_wp2_with fail
      refine (known_any w5).mono ?_
      rintro e w6 ⟨rfl, he6⟩
      go_wp2_with fail
      go_ret
      exact ⟨rfl, ((he3.trans he4).trans he5).trans he6⟩
end Go.Proofs.Ytcicehnbkhecdaa
