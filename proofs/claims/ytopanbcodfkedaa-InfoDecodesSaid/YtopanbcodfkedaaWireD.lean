/- Contracts of the reading functions of package wire. -/
import Derived.Test.YtopanbcodfkedaaWireA
namespace Go.Proofs.Ytopanbcodfkedaa
open Go.RowKit

theorem reader_any (x : Value) (p : Int) (w : World) (hx : ∃ A n c, x = .slice A n c) :
    Calls Try.prog 67 #[x, .int .i64 p] w fun e w' => e = .returned (.func (.func 68) #[] #[.pointer (some ⟨w.heap.size + 1, 0, none⟩), .pointer (some ⟨w.heap.size, 0, none⟩)]) ∧
      (w.alloc (.cells #[x] 29)).alloc (.cells #[.int .i64 p] 3) = w' := by
  obtain ⟨A, n, c, rfl⟩ := hx
  go_enter Try.func67, Try.ntmps67
  go_wp2
  go_ret
  exact ⟨rfl, rfl⟩

theorem next_end (pa pb : Addr) (A : Option Addr) (n c : Nat) (p : Int) (w : World) (ha : w.cell? pa = some (.int .i64 p)) (hb : w.cell? pb = some (.slice A n c)) (hp : (n : Int) ≤ p) :
    Calls Try.prog 68 #[.pointer (some pa), .pointer (some pb)] w fun e w' => e = .returned (.tuple #[.int .u8 0, .bool false]) ∧ w = w' := by
  go_enter Try.func68, Try.ntmps68
  go_wp2
  go_ret2
  exact ⟨rfl, rfl⟩

theorem next_byte (pa pb : Addr) (A : Option Addr) (c : Nat) (l : List UInt8) (p : Nat) (w : World) (ha : w.cell? pa = some (.int .i64 (p : Int))) (hb : w.cell? pb = some (.slice A l.length c)) (hf : w.frozen? pa = false) (hne : pb ≠ pa)
    (hr : Rd w A (l.map bv)) (hn : ∀ ad, A = some ad → ad.block ≠ pa.block) (hp : p < l.length) (hl : l.length ≤ 4294967296) :
    Calls Try.prog 68 #[.pointer (some pa), .pointer (some pb)] w fun e w' => e = .returned (.tuple #[.int .u8 (l[p].toNat : Int), .bool true]) ∧ w.setCell pa (.int .i64 (p + 1 : Int)) = w' := by
  obtain ⟨b1, o1, rfl, hc1⟩ := hr.byte hp
  have hne1 := hn _ rfl
  generalize ((l[p].toNat : Nat) : Int) = v1 at *
  have hc : (w.setCell pa (.int .i64 ((p : Int) + 1))).cell? ⟨b1, o1 + p, none⟩ = some (.int .u8 v1) := by
    rw [World.cell?_setCell_other _ _ _ _ (fun e => hne1 (by rw [e]))]; exact hc1
  have hb2 : (w.setCell pa (.int .i64 ((p : Int) + 1))).cell? pb = some (.slice (some ⟨b1, o1, none⟩) l.length c) := by
    rw [World.cell?_setCell_other _ _ _ _ hne.symm]; exact hb
  have ha2 : (w.setCell pa (.int .i64 ((p : Int) + 1))).cell? pa = some (.int .i64 ((p : Int) + 1)) := World.cell?_setCell_same _ _ _ ha
  clear hne1 hn hr
  go_enter Try.func68, Try.ntmps68
  go_wp2
  go_ret2
  exact ⟨rfl, rfl⟩

/-- the loop's state: the closure's two cells -/
structure Rdr (w wr : World) (A : Option Addr) (n c : Nat) (q : Int) : Prop where
  ext : Ext w wr
  size : w.heap.size + 2 ≤ wr.heap.size
  at_ : wr.cell? ⟨w.heap.size + 1, 0, none⟩ = some (.int .i64 q)
  free : wr.frozen? ⟨w.heap.size + 1, 0, none⟩ = false
  buf : wr.cell? ⟨w.heap.size, 0, none⟩ = some (.slice A n c)

/-- the three results of a reading -/
def rdV (r : Nat × Int × Int) : Value := .tuple #[.int .u64 (r.1 : Int), .int .i64 r.2.1, .int .i64 r.2.2]

set_option maxRecDepth 100000 in
theorem groups_loop (A : Option Addr) (c : Nat) (l : List UInt8) (p last most : Nat) (w : World) (hr : Rd w A (l.map bv)) (hl : l.length ≤ 4294967296) (hp : p ≤ l.length)
    (hlm : (last = 8 ∧ most = 127) ∨ (last = 9 ∧ most = 1)) :
    Calls Try.prog 64 #[.slice A l.length c, .int .i64 (p : Int), .int .i64 (last : Int), .int .u8 (most : Int)] w fun e w' => e = .returned (rdV (rdAt last most l p)) ∧ Ext w w' := by
  have hlast : last ≤ 9 := by omega
  have hmost : most < 128 := by omega
  have Hlm := Lib.hid hlm
  clear hlm
  go_enter Try.func64, Try.ntmps64
  go_wp2_with fail
  refine (reader_any _ _ w ⟨_, _, _, rfl⟩).mono ?_
  rintro e w1 ⟨rfl, rfl⟩
  have hR : Rdr w ((w.alloc (.cells #[.slice A l.length c] 29)).alloc (.cells #[.int .i64 (p : Int)] 3)) A l.length c p := by
    refine ⟨((Ext.refl w).alloc _).alloc _, by simp, ?_, ?_, ?_⟩ <;> simp [go_sem]
  generalize (w.alloc (.cells #[.slice A l.length c] 29)).alloc (.cells #[.int .i64 (p : Int)] 3) = w1 at *
  go_wp2_with fail
  go_loopw [12, 13] (fun x y wr => ∃ k u : Nat, x = .int .u64 (u : Int) ∧ y = .int .i64 (k : Int) ∧ k ≤ last ∧ u < 2 ^ (7 * k) ∧ p + k ≤ l.length ∧ rd last most (l.drop p) 0 0 = rd last most (l.drop (p + k)) k u ∧ Rdr w wr A l.length c ((p + k : Nat) : Int)) (fun _ y _ => 10 - (intOf y).toNat)
  case atStart => exact ⟨0, 0, rfl, rfl, Nat.zero_le _, by decide, by omega, rfl, by simpa using hR⟩
  case round =>
    obtain ⟨k, u, rfl, rfl, hk, hu, hpk, hrd, hR2⟩ := hrel
    have Hrd := Lib.hid hrd
    have HR := Lib.hid hR2
    clear hrd hR2 hR
    have Hu := Lib.hid hu
    clear hu
    go_wp2_with fail
    have hR2 := HR.out
    by_cases hlt : p + k < l.length
    · refine (next_byte _ _ A c l (p + k) wr hR2.at_ hR2.buf hR2.free (by simp) (hr.ext hR2.ext) ?_ hlt hl).mono ?_
      · rintro ad rfl
        have := hr.lt (by simp; omega)
        simp; omega
      · rintro e w2 ⟨rfl, hw2⟩
        have Hd := Lib.hid (drop_at hlt)
        have Hw2 := Lib.hid hw2
        clear hw2 hR2
        generalize l[p + k] = x at *
        have hx : x.toNat < 256 := x.toNat_lt
        have hx2 : Ext w w2 := by rw [← Hw2.out]; exact HR.out.ext.setCell (by simp) _
        by_cases b1 : k = last
        · subst b1
          by_cases b2 : most < x.toNat
          · go_wp2_with fail
            go_ret3
            exact ⟨by rw [rdAt_of hp (Hrd.out.trans (by rw [Hd.out, rd_range ⟨rfl, b2⟩]))]; rfl, hx2⟩
          · have h0 : 0 < k := by have := Hlm.out; omega
            by_cases b3 : x.toNat = 0
            · have H3 := Lib.hid b3
              have e3 : ((x.toNat : Int) == 0) = true := by simp [b3]
              clear b3
              go_wp2_with fail
              go_ret3
              exact ⟨by rw [rdAt_of hp (Hrd.out.trans (by rw [Hd.out, rd_form (by omega) ⟨H3.out, h0⟩]))]; rfl, hx2⟩
            · have e3 : ((x.toNat : Int) == 0) = false := by simp; omega
              have b5 : x.toNat < 128 := by omega
              have ej := join7 u x.toNat k Hu.out hx (by have := Hlm.out; omega)
              go_wp2_with fail
              go_ret3
              exact ⟨by rw [rdAt_of hp (Hrd.out.trans (by rw [Hd.out, rd_done (by omega) (by omega) b5]))]; simp [rdV]; omega, hx2⟩
        · have e1 : ((k : Int) == (last : Int)) = false := by simp; omega
          by_cases b3 : x.toNat = 0
          · by_cases b4 : 0 < k
            · have H3 := Lib.hid b3
              have e3 : ((x.toNat : Int) == 0) = true := by simp [b3]
              clear b3
              go_wp2_with fail
              go_ret3
              exact ⟨by rw [rdAt_of hp (Hrd.out.trans (by rw [Hd.out, rd_form (by omega) ⟨H3.out, b4⟩]))]; rfl, hx2⟩
            · obtain rfl : k = 0 := by omega
              have H3 := Lib.hid b3
              have e3 : ((x.toNat : Int) == 0) = true := by simp [b3]
              have b5 : x.toNat < 128 := by omega
              have ej := join7 u x.toNat 0 Hu.out hx (by omega)
              clear b3
              go_wp2_with fail
              go_ret3
              exact ⟨by rw [rdAt_of hp (Hrd.out.trans (by rw [Hd.out, rd_done (by omega) (by omega) b5]))]; simp [rdV]; simpa using ej, hx2⟩
          · have e3 : ((x.toNat : Int) == 0) = false := by simp; omega
            by_cases b5 : x.toNat < 128
            · have ej := join7 u x.toNat k Hu.out hx (by omega)
              go_wp2_with fail
              go_ret3
              exact ⟨by rw [rdAt_of hp (Hrd.out.trans (by rw [Hd.out, rd_done (by omega) (by omega) b5]))]; simp [rdV]; omega, hx2⟩
            · have ej := join7 u x.toNat k Hu.out hx (by omega)
              go_wp2_with fail
              refine ⟨⟨k + 1, u + x.toNat % 128 * 2 ^ (7 * k), by simp, by go_num, by omega, join7_lt Hu.out, by omega, ?_, ?_⟩, by simp [intOf]; omega⟩
              · rw [Hrd.out, Hd.out, rd_more (by omega) (by omega) b5]; rfl
              · rw [← Hw2.out]
                have hq := HR.out
                refine ⟨hq.ext.setCell (by simp) _, by simpa using hq.size, ?_, by simpa using hq.free, ?_⟩
                · rw [World.cell?_setCell_same _ _ _ hq.at_]; go_num
                · rw [World.cell?_setCell_other _ _ _ _ (by simp)]; exact hq.buf
    · refine (next_end _ _ A l.length c _ wr hR2.at_ hR2.buf (by omega)).mono ?_
      rintro e w2 ⟨rfl, rfl⟩
      have hx := hR2.ext
      clear hR2
      go_wp2_with fail
      go_ret3
      refine ⟨?_, hx⟩
      rw [rdAt_of hp (Hrd.out.trans (by rw [List.drop_of_length_le (by omega), rd]))]
      rfl

theorem groups_any (x : Value) (l : List UInt8) (p : Int) (last most : Nat) (w : World) (hx : InB w x l) (hl : l.length ≤ 4294967296) (hlm : (last = 8 ∧ most = 127) ∨ (last = 9 ∧ most = 1)) :
    Calls Try.prog 64 #[x, .int .i64 p, .int .i64 (last : Int), .int .u8 (most : Int)] w fun e w' => e = .returned (rdV (rdAt last most l p)) ∧ Ext w w' := by
  obtain ⟨A, c, rfl, _, hr⟩ := hx
  by_cases h0 : p < 0
  · have H : Hid (rdAt last most l p = (0, 0, 1)) := Lib.hid (by unfold rdAt; rw [if_pos (.inl h0)])
    clear hlm
    go_enter Try.func64, Try.ntmps64
    go_wp2_with fail
    go_ret3
    exact ⟨by rw [H.out]; rfl, Ext.refl _⟩
  · obtain ⟨q, rfl⟩ := Int.eq_ofNat_of_zero_le (show 0 ≤ p by omega)
    by_cases h1 : l.length < q
    · have H : Hid (rdAt last most l (q : Int) = (0, 0, 1)) := Lib.hid (by unfold rdAt; rw [if_pos (.inr (by omega))])
      have h1' : (l.length : Int) < (q : Int) := by omega
      clear hlm
      go_enter Try.func64, Try.ntmps64
      go_wp2_with fail
      go_ret3
      exact ⟨by rw [H.out]; rfl, Ext.refl _⟩
    · exact groups_loop A c l q last most w hr hl (by omega) hlm

set_option maxRecDepth 100000 in
theorem Uint_any (x : Value) (l : List UInt8) (p : Int) (w : World) (hx : InB w x l) (hl : l.length ≤ 4294967296) :
    Calls Try.prog 57 #[x, .int .i64 p] w fun e w' => e = .returned (.tuple #[.int .i64 (uintR l p).1, .int .i64 (uintR l p).2.1, .int .i64 (uintR l p).2.2]) ∧ Ext w w' := by
  have hlt := rdAt_lt8 l p
  go_enter Try.func57, Try.ntmps57
  go_wp2_with fail
  refine (groups_any x l p 8 127 w hx hl (by omega)).mono ?_
  rintro e w1 ⟨rfl, he⟩
  obtain ⟨⟨u, n, er⟩, hr⟩ : ∃ r, rdAt 8 127 l p = r := ⟨_, rfl⟩
  rw [hr] at hlt ⊢
  have HR := Lib.hid hr
  clear hr
  simp only [rdV] at hlt ⊢
  go_wp2_with fail
  go_ret3
  exact ⟨by unfold uintR; rw [HR.out]; rfl, he⟩

theorem and1 (u : Nat) (h : u < 18446744073709551616) : bits .and .u64 (u : Int) 1 = ((u % 2 : Nat) : Int) := by
  have := u64_and_nat u 1 h (by omega)
  rw [nat_mask1] at this
  exact this

set_option maxRecDepth 100000 in
theorem Int_any (x : Value) (l : List UInt8) (p : Int) (w : World) (hx : InB w x l) (hl : l.length ≤ 4294967296) :
    Calls Try.prog 58 #[x, .int .i64 p] w fun e w' => e = .returned (.tuple #[.int .i64 (intR l p).1, .int .i64 (intR l p).2.1, .int .i64 (intR l p).2.2]) ∧ Ext w w' := by
  have hlt := rdAt_lt9 l p
  go_enter Try.func58, Try.ntmps58
  go_wp2_with fail
  refine (groups_any x l p 9 1 w hx hl (by omega)).mono ?_
  rintro e w1 ⟨rfl, he⟩
  obtain ⟨⟨u, n, er⟩, hr⟩ : ∃ r, rdAt 9 1 l p = r := ⟨_, rfl⟩
  rw [hr] at hlt ⊢
  have HR := Lib.hid hr
  clear hr
  simp only [rdV] at hlt ⊢
  have ha := and1 u hlt
  by_cases h1 : u % 2 = 1
  · have hb : (bits .and .u64 (u : Int) 1 == 1) = true := by rw [ha, h1]; rfl
    have hn : bits .xor .i64 (-1) ((u : Int) / 2) = -((u : Int) / 2) - 1 := i64_notI _ (by omega) (by omega)
    have HZ : Hid (unzig u = -((u / 2 : Nat) : Int) - 1) := Lib.hid (by unfold unzig; rw [if_pos h1])
    clear ha h1
    go_wp2_with fail
    go_ret3
    exact ⟨by unfold intR; rw [HR.out, HZ.out]; rfl, he⟩
  · have hb : (bits .and .u64 (u : Int) 1 == 1) = false := by rw [ha]; simp; omega
    clear ha
    have HZ : Hid (unzig u = ((u / 2 : Nat) : Int)) := Lib.hid (by unfold unzig; rw [if_neg h1])
    go_wp2_with fail
    go_ret3
    exact ⟨by unfold intR; rw [HR.out, HZ.out]; rfl, he⟩

theorem u8_parts : ∃ i0, Try.prog.info? 5 = some i0 ∧ i0.size = 1 := by
  obtain ⟨i0, hi, hz0, hz1, hz2⟩ := info_parts u8_info
  exact ⟨i0, hi, hz1⟩

/-- x[lo:hi] -/
theorem cutB {w : World} {x : Value} {l : List UInt8} (hx : InB w x l) (lo hi : Nat) (h1 : lo ≤ hi) (h2 : hi ≤ l.length) :
    ∃ y, (∀ W, (Instr.slice 29 x (some (.int .i64 (lo : Int))) (some (.int .i64 (hi : Int))) none).run Try.prog W = .ok y W) ∧ InB w y ((l.drop lo).take (hi - lo)) := by
  obtain ⟨i0, hi0, hs⟩ := u8_parts
  exact InV.cut Try.underlying29 hi0 hs hx lo hi h1 h2
/-- string(x) -/
theorem strB {w : World} {x : Value} {l : List UInt8} (hx : InB w x l) : (convert 29 9 x).run Try.prog w = .ok (.string ⟨l.toArray⟩) w :=
  InV.str Try.underlying29 Try.underlying5 Try.underlying9 hx

set_option maxRecDepth 100000 in
theorem Text_any (x : Value) (l : List UInt8) (p : Int) (w : World) (hx : InB w x l) (hl : l.length ≤ 4294967296) :
    Calls Try.prog 59 #[x, .int .i64 p] w fun e w' => e = .returned (.tuple #[.string ⟨(textR l p).1.toArray⟩, .int .i64 (textR l p).2.1, .int .i64 (textR l p).2.2]) ∧ Ext w w' := by
  have hx' := hx
  obtain ⟨A, c, rfl, hc, _⟩ := hx'
  have hlt := rdAt_lt8 l p
  have hn := fun h => uintR_next (l := l) (p := p) h
  have h1 : (uintR l p).1 = ((rdAt 8 127 l p).1 : Int) := rfl
  rw [← Int.ofNat_lt, ← h1] at hlt
  have h0 : 0 ≤ (uintR l p).1 := by rw [h1]; omega
  clear h1
  obtain ⟨⟨u, n, er⟩, hr⟩ : ∃ r, uintR l p = r := ⟨_, rfl⟩
  rw [hr] at hlt hn h0
  have HR := Lib.hid hr
  clear hr
  simp only at hlt hn h0
  go_enter Try.func59, Try.ntmps59
  go_wp2_with fail
  refine (Uint_any _ l p w hx hl).mono ?_
  rintro e w1 ⟨rfl, he⟩
  rw [HR.out]
  simp only
  by_cases hz : er = 0
  · subst hz
    have hnn := hn rfl
    clear hn
    by_cases hgt : (l.length : Int) - n < u
    · have H : Hid (textR l p = ([], 0, 3)) := Lib.hid (by unfold textR; rw [HR.out, if_neg (by simp), if_pos hgt])
      go_wp2_with fail
      go_ret3
      exact ⟨by rw [H.out]; rfl, he⟩
    · obtain ⟨m, rfl⟩ := Int.eq_ofNat_of_zero_le h0
      obtain ⟨q, rfl⟩ := Int.eq_ofNat_of_zero_le (show 0 ≤ n by omega)
      have H : Hid (textR l p = ((l.drop q).take m, (q : Int) + m, 0)) := Lib.hid (by
        unfold textR; rw [HR.out, if_neg (by simp), if_neg hgt]; simp)
      obtain ⟨y, hy, hin⟩ := cutB (hx.ext he) q (q + m) (by omega) (by omega)
      have hst := strB hin
      rw [show q + m - q = m by omega] at hst
      have hy' : ∀ W, (Instr.slice 29 (.slice A l.length c) (some (.int .i64 (q : Int))) (some (.int .i64 ((q : Int) + (m : Int)))) none).run Try.prog W = .ok y W := by simpa using hy
      clear hy
      have hin2 := Lib.hid hin
      clear hin
      go_wp2_with fail
      go_ret3
      exact ⟨by rw [H.out]; rfl, he⟩
  · have H : Hid (textR l p = ([], 0, er)) := Lib.hid (by unfold textR; rw [HR.out, if_pos hz])
    have hb : (er != 0) = true := by simpa using hz
    clear hn hz
    go_wp2_with fail
    go_ret3
    exact ⟨by rw [H.out]; rfl, he⟩
end Go.Proofs.Ytopanbcodfkedaa
