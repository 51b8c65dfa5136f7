/- The walk of WireOwn. -/
import Derived.Test.YtcicehnbkhecdaaLaw01d
import Derived.Laws.CopyOwn
import Derived.Deep.RegionWith
import Derived.Deep.RegionHeld3
namespace Go.Proofs.Ytcicehnbkhecdaa
open Go.RowKit

/-- block g holds just these bytes -/
def BlkB (w : World) (g : Nat) (F : List UInt8) : Prop := w.heap[g]? = some (.cells (F.map bv).toArray 5 (0, 0))
theorem BlkB.at_ {w : World} {g : Nat} {F : List UInt8} (h : BlkB w g F) {j : Nat} (hj : j < F.length) : w.cell? ⟨g, j, none⟩ = some (.int .u8 (F[j].toNat : Int)) ∧ w.frozen? ⟨g, j, none⟩ = false := by
  unfold BlkB at h
  refine ⟨?_, by simp [World.frozen?, h]⟩
  simp [World.cell?, h, hj, bv]
theorem BlkB.put {w : World} {g : Nat} {F : List UInt8} (h : BlkB w g F) (j : Nat) (u : UInt8) : BlkB (w.setCell ⟨g, j, none⟩ (bv u)) g (F.set j u) := by
  unfold BlkB at *
  simp [World.setCell, Array.getElem?_modify, h]
theorem BlkB.ext {w w' : World} {g : Nat} {F : List UInt8} (h : BlkB w g F) (he : Ext w w') : BlkB w' g F := he.heap h
theorem BlkB.inB {w : World} {g : Nat} {F : List UInt8} (h : BlkB w g F) : InB w (.slice (some ⟨g, 0, none⟩) F.length F.length) F :=
  ⟨_, _, rfl, Nat.le_refl _, fun j u hu => ⟨_, rfl, World.news_of_block h j u (by simpa using hu)⟩⟩

/-- the first n cells of block g may be written -/
def Room (w : World) (g n : Nat) : Prop := ∃ cur e, w.heap[g]? = some (.cells cur e (0, 0)) ∧ n ≤ cur.size
theorem Room.set_ {w : World} {g n : Nat} (h : Room w g n) (p : Addr) (u : Value) : Room (w.setCell p u) g n := by
  obtain ⟨cur, e, hg, hn⟩ := h
  by_cases hp : g = p.block
  · subst hp
    exact ⟨(if p.spot.isSome then cur else cur.setIfInBounds p.off u), e, by simp [World.setCell, Array.getElem?_modify, hg], by split <;> simpa using hn⟩
  · exact ⟨cur, e, (Below.heap_setCell w p u g hp).trans hg, hn⟩
theorem Room.at_ {w : World} {g n : Nat} (h : Room w g n) {j : Nat} (hj : j < n) : (∃ u, w.cell? ⟨g, j, none⟩ = some u) ∧ w.frozen? ⟨g, j, none⟩ = false := by
  obtain ⟨cur, e, hg, hn⟩ := h
  refine ⟨⟨cur[j]'(by omega), ?_⟩, by simp [World.frozen?, hg]⟩
  have : j < cur.size := by omega
  simp [World.cell?, hg, this]
theorem Room.ext {w w' : World} {g n : Nat} (h : Room w g n) (he : Ext w w') : Room w' g n := by
  obtain ⟨cur, e, hg, hn⟩ := h
  exact ⟨cur, e, he.heap hg, hn⟩
/-- a slice of the call's own: where it lies -/
def Mine (base : Nat) (w : World) (A : Option Addr) (n : Nat) : Prop := 0 < n → ∃ g, A = some ⟨g, 0, none⟩ ∧ base ≤ g ∧ Room w g n
theorem OwnB.mine {base : Nat} {w : World} {v : Value} {l : List UInt8} (h : OwnB base w v l) : ∃ A c, v = .slice A l.length c ∧ Mine base w A l.length := by
  rcases h.2 with ⟨rfl, hn⟩ | ⟨g, cap, cur, rfl, hb, hg, hnc, hcm, hcs, _⟩
  · exact ⟨none, 0, by rw [hn], fun h => by omega⟩
  · exact ⟨_, cap, rfl, fun _ => ⟨g, rfl, hb, cur, _, hg, by omega⟩⟩
theorem Mine.ext {base : Nat} {w w' : World} {A : Option Addr} {n : Nat} (h : Mine base w A n) (he : Ext w w') : Mine base w' A n := fun h0 => by
  obtain ⟨g, e, hb, hr⟩ := h h0
  exact ⟨g, e, hb, hr.ext he⟩
theorem Mine.set_ {base : Nat} {w : World} {A : Option Addr} {n : Nat} (h : Mine base w A n) (p : Addr) (u : Value) : Mine base (w.setCell p u) A n := fun h0 => by
  obtain ⟨g, e, hb, hr⟩ := h h0
  exact ⟨g, e, hb, hr.set_ p u⟩
theorem Mine.more {base base' : Nat} {w : World} {A : Option Addr} {n : Nat} (h : Mine base w A n) (hb : base' ≤ base) : Mine base' w A n := fun h0 => by
  obtain ⟨g, e, hb', hr⟩ := h h0
  exact ⟨g, e, by omega, hr⟩

/-- copy(full, b) -/
theorem run_copyB {w : World} {g N cap c ty : Nat} {F : List UInt8} (hg : BlkB w g F) {A : Option Addr} {l : List UInt8} (hr : Rd w A (l.map bv)) (hN : l.length ≤ N) (hfit : l.length ≤ F.length) :
    ∃ w', (Builtin.copy_ #[22, 22] ty #[.slice (some ⟨g, 0, none⟩) N cap, .slice A l.length c]).run Try.prog w = .ok (goInt l.length) w' ∧ BlkB w' g (l ++ F.drop l.length) ∧ w.grownBy w' (some g) := by
  have hsz : (Try.prog.info? 5).map (·.size) = some 1 := by kernel_rfl
  by_cases h0 : l.length = 0
  · have : l = [] := List.eq_nil_of_length_eq_zero h0
    subst this
    exact ⟨w, run_copy_none w _ _ ty _ _ A N cap _ c Try.underlying22 hsz (by simp), by simpa using hg, ⟨rfl, rfl, rfl, Nat.le_refl _, fun _ _ _ => rfl⟩⟩
  · obtain ⟨ad, rfl, _⟩ := hr.at_ (k := 0) (by simp; omega)
    have hsrc : ∀ j v, (l.map bv)[j]? = some v → w.cell? (ad.add j) = some v := fun j v hv => by
      obtain ⟨ad', e, hc⟩ := hr j v hv
      cases e; exact hc
    have hrun := run_copy_row (P := Try.prog) w 22 22 ty 5 g 0 N cap ad l.length c (F.map bv).toArray 5 (l.map bv) Try.underlying22 hsz hg (by simp [Nat.min_eq_left hN]) hsrc (by simp; omega) (bv_one l)
    rw [List.length_map] at hrun
    refine ⟨_, hrun, ?_, ⟨rfl, rfl, rfl, by simp [World.setRow], fun k _ hne => setRow_other w g k _ (fun e => hne (by rw [e]))⟩⟩
    unfold BlkB
    rw [setRow_heap w g _ _ _ _ hg]
    simp

theorem fill_set (l : List UInt8) (a b : Nat) : (l ++ List.replicate a 77 ++ List.replicate (b + 1) 0).set (l.length + a) 77 = l ++ List.replicate (a + 1) 77 ++ List.replicate b 0 := by
  rw [List.set_append, if_neg (by simp), List.length_append, List.length_replicate, Nat.sub_self, List.replicate_succ, List.set_cons_zero, List.replicate_succ']
  simp

theorem fill_at (l : List UInt8) (n a : Nat) (h : l.length + a < (l ++ List.replicate n (77 : UInt8)).length) : (l ++ List.replicate n (77 : UInt8))[l.length + a] = 77 := by
  rw [List.getElem_append_right (by omega), List.getElem_replicate]

set_option maxHeartbeats 2000000 in
set_option maxRecDepth 100000 in
theorem law_own (x : Value) (l : List UInt8) (v : Int) (t : ByteArray) (w : World) (hx : InB w x l) (hv1 : -9223372036854775808 ≤ v) (hv : v ≤ 9223372036854775807) :
    Calls Try.prog 7 #[x, .int .i64 v, .string t] w fun e w' => e = .returned (.bool true) ∧ Ext w w' := by
  have hx' := hx
  obtain ⟨A, c, rfl, _, hrx⟩ := hx'
  by_cases hbig : 200 < l.length ∨ 200 < t.size
  · clear hv hv1
    by_cases h1 : 200 < l.length
    · have h1' : (200 : Int) < (l.length : Int) := by omega
      go_enter Try.func7, Try.ntmps7
      go_wp2_with fail
      refine (known_any w).mono ?_
      rintro e w1 ⟨rfl, he1⟩
      go_wp2_with fail
      go_ret
      exact ⟨rfl, he1⟩
    · have h1' : ¬ (200 : Int) < (l.length : Int) := by omega
      have h2' : (200 : Int) < (t.size : Int) := by omega
      go_enter Try.func7, Try.ntmps7
      go_wp2_with fail
      refine (known_any w).mono ?_
      rintro e w1 ⟨rfl, he1⟩
      go_wp2_with fail
      go_ret
      exact ⟨rfl, he1⟩
  · have h1' : ¬ (200 : Int) < (l.length : Int) := by omega
    have h2' : ¬ (200 : Int) < (t.size : Int) := by omega
    have hl : l.length ≤ 200 := by omega
    have ht : t.size ≤ 200 := by omega
    clear hbig
    obtain ⟨i0, hi, hz0, hz1, hz2⟩ := info_parts u8_info
    have hmk := fun W => run_make (P := Try.prog) W 22 5 i0 _ Try.underlying22 hi hz0 .i64 .i64 ((l.length : Int) + 40) ((l.length : Int) + 40) (by omega) (by omega) (by rw [hz2]; omega) (by omega)
    have hk : ((l.length : Int) + 40).toNat = l.length + 40 := by omega
    simp only [hk, hz1, Nat.mul_one, Value.cells] at hmk
    have hsz : (Try.prog.info? 5).map (·.size) = some 1 := by kernel_rfl
    obtain ⟨Z, HZ⟩ : ∃ Z, Hid (Z = madeCells #[Value.int .u8 0] (l.length + 40)) := ⟨_, Lib.hid rfl⟩
    rw [← HZ.out] at hmk
    have hZ : Z = (List.replicate (l.length + 40) (bv 0)).toArray := by
      rw [HZ.out]
      apply Array.ext'
      rw [toList_madeCells_one]
      simp [bv]
    have hB0 : BlkB (w.alloc (.cells Z 5)) w.heap.size (List.replicate (l.length + 40) 0) := by
      unfold BlkB; rw [heap_alloc_new, hZ]; simp
    obtain ⟨w2, hcp, hB2, hgr2⟩ := run_copyB (N := l.length + 40) (cap := l.length + 40) (c := c) (ty := 3) hB0 (hrx.ext ((Ext.refl w).alloc _)) (by omega) (by simp)
    have he2 : Ext w w2 := ((Ext.refl w).alloc _).grown hgr2 (by intro k hk; injection hk with hk; omega)
    rw [List.drop_replicate, Nat.add_sub_cancel_left] at hB2
    clear hZ hB0 hgr2
    go_enter Try.func7, Try.ntmps7
    go_wp2_with fail
    clear hcp hmk
    have hs2 := he2.size
    go_loopw [8] (fun i wr => ∃ a : Nat, a ≤ 40 ∧ i = .int .i64 ((l.length + a : Nat) : Int) ∧ BlkB wr w.heap.size (l ++ List.replicate a 77 ++ List.replicate (40 - a) 0) ∧ Ext w wr) (fun i _ => l.length + 40 - (intOf i).toNat)
    case atStart => exact ⟨0, Nat.zero_le _, rfl, by simpa using hB2, he2⟩
    case round =>
      obtain ⟨a, ha, rfl, hB, hex⟩ := hrel
      by_cases hlt : a < 40
      · obtain ⟨hc1, hf1⟩ := hB.at_ (j := l.length + a) (by simp; omega)
        have hB3 := hB.put (l.length + a) 77
        obtain ⟨d, hd⟩ : ∃ d, 40 - a = d + 1 := ⟨39 - a, by omega⟩
        rw [hd, fill_set, show d = 40 - (a + 1) by omega] at hB3
        have hex3 := hex.setCell (p := ⟨w.heap.size, l.length + a, none⟩) (Nat.le_refl _) (bv 77)
        clear hB hd
        have hB3' : BlkB (wr.setCell ⟨w.heap.size, l.length + a, none⟩ (.int .u8 77)) w.heap.size (l ++ List.replicate (a + 1) 77 ++ List.replicate (40 - (a + 1)) 0) := hB3
        have hex3' : Ext w (wr.setCell ⟨w.heap.size, l.length + a, none⟩ (.int .u8 77)) := hex3
        clear hB3 hex3
        generalize ((l ++ List.replicate a 77 ++ List.replicate (40 - a) 0)[l.length + a]'(by simp; omega)).toNat = old at *
        have hi1 : (l.length : Int) + (a : Int) < (l.length : Int) + 40 := by omega
        go_wp2_with fail
        exact ⟨⟨a + 1, by omega, by go_num, hB3', hex3'⟩, by simp [intOf]; omega⟩
      · obtain rfl : a = 40 := by omega
        obtain ⟨w3, rfl⟩ : ∃ w3 : World, w3 = wr := ⟨_, rfl⟩
        rw [Nat.sub_self, List.replicate_zero, List.append_nil] at hB
        clear hB2 he2 hs2 ha hlt
        have hF : (l ++ List.replicate 40 (77 : UInt8)).length = l.length + 40 := by simp
        have hFt : (l ++ List.replicate 40 (77 : UInt8)).take l.length = l := by simp
        have hin0 := hB.inB
        rw [hF] at hin0
        obtain ⟨A3, c3, hsl, hin3⟩ := preB hin0 l.length (by simp)
        rw [hFt] at hin3
        have HB := Lib.hid hB
        have HF := Lib.hid hF
        clear hB hF hFt hin0
        have hin4 := hin3.ext (Ext.refl w3).drew
        have hs3 := hex.size
        go_wp2_with fail
        go_region_with (first
          | (go_at_call 11; refine (AppendUint_any _ l v _ hin4 (by omega) hv).mono ?_; rintro e w4 ⟨y4, rfl, ho4, he4⟩)
          | (go_at_call 15; refine (AppendInt_any _ l v _ (hin4.ext he4) (by omega) hv1 hv).mono ?_; rintro e w5 ⟨y5, rfl, ho5, he5⟩)
          | (go_at_call 19; refine (AppendText_any _ l t _ (hin4.ext (he4.trans he5)) (by omega) (by omega)).mono ?_; rintro e w6 ⟨y6, rfl, ho6, he6⟩))
        obtain ⟨A4, c4, rfl, hm4⟩ := ho4.mine
        obtain ⟨A5, c5, rfl, hm5⟩ := ho5.mine
        obtain ⟨A6, c6, rfl, hm6⟩ := ho6.mine
        have hn4 : (l ++ uintB v).length ≤ 1000 := by have := uintB_len hv; simp; omega
        have hn5 : (l ++ leb (zig v)).length ≤ 1000 := by have := leb_len10 (zig_lt hv1 hv); simp; omega
        have hn6 : (l ++ (leb t.size ++ t.data.toList)).length ≤ 1000 := by have := leb_len10 (u := t.size) (by omega); simp; omega
        clear ho4 ho5 ho6 hin4 hsl hv hv1
        have he4' : Ext w3 w4 := (Ext.refl w3).drew.trans he4
        have hs4 := he4'.size
        have hs5 := he5.size
        replace hm4 : Mine w3.heap.size w6 A4 (l ++ uintB v).length := (Mine.ext (base := w3.heap.size) hm4 he5).ext he6
        replace hm5 : Mine w3.heap.size w6 A5 (l ++ leb (zig v)).length := (hm5.ext he6).more hs4
        replace hm6 : Mine w3.heap.size w6 A6 (l ++ (leb t.size ++ t.data.toList)).length := hm6.more (by omega)
        have hx3 : Ext w3 w6 := (he4'.trans he5).trans he6
        generalize (l ++ uintB v).length = n4 at *
        generalize (l ++ leb (zig v)).length = n5 at *
        generalize (l ++ (leb t.size ++ t.data.toList)).length = n6 at *
        clear he4 he4' he5 he6 hs4 hs5
        go_wp2_with fail
        go_loopw [12] (fun i wr => ∃ k : Nat, k ≤ n4 ∧ i = .int .i64 (k : Int) ∧ Ext w3 wr ∧ Mine w3.heap.size wr A4 n4 ∧ Mine w3.heap.size wr A5 n5 ∧ Mine w3.heap.size wr A6 n6) (fun i _ => n4 - (intOf i).toNat)
        case atStart => exact ⟨0, Nat.zero_le _, rfl, hx3, hm4, hm5, hm6⟩
        case round =>
          clear hx3 hm4 hm5 hm6
          obtain ⟨k4, hk4, rfl, hx3, hm4, hm5, hm6⟩ := hrel
          by_cases hlt4 : k4 < n4
          · obtain ⟨g, rfl, hg, hroom⟩ := hm4 (by omega)
            obtain ⟨⟨old, hc⟩, hf⟩ := hroom.at_ hlt4
            have hi1 : (k4 : Int) < (n4 : Int) := by omega
            have q1 := hx3.setCell (p := ⟨g, k4, none⟩) hg (.int .u8 1)
            have q4 := hm4.set_ ⟨g, k4, none⟩ (.int .u8 1)
            have q5 := hm5.set_ ⟨g, k4, none⟩ (.int .u8 1)
            have q6 := hm6.set_ ⟨g, k4, none⟩ (.int .u8 1)
            clear hx3 hm4 hm5 hm6 hroom
            go_wp2_with fail
            exact ⟨⟨k4 + 1, by omega, by go_num, q1, q4, q5, q6⟩, by simp [intOf]; omega⟩
          · go_wp2_with fail
            clear hlt4 hk4
            obtain ⟨wo, rfl⟩ : ∃ wo : World, wo = wr := ⟨_, rfl⟩
            go_loopw [13] (fun i wr => ∃ k : Nat, k ≤ n5 ∧ i = .int .i64 (k : Int) ∧ Ext w3 wr ∧ Mine w3.heap.size wr A4 n4 ∧ Mine w3.heap.size wr A5 n5 ∧ Mine w3.heap.size wr A6 n6) (fun i _ => n5 - (intOf i).toNat)
            case atStart => exact ⟨0, Nat.zero_le _, rfl, hx3, hm4, hm5, hm6⟩
            case round =>
              clear hx3 hm4 hm5 hm6
              obtain ⟨k5, hk5, rfl, hx3, hm4, hm5, hm6⟩ := hrel
              by_cases hlt5 : k5 < n5
              · obtain ⟨g, rfl, hg, hroom⟩ := hm5 (by omega)
                obtain ⟨⟨old, hc⟩, hf⟩ := hroom.at_ hlt5
                have hi1 : (k5 : Int) < (n5 : Int) := by omega
                have q1 := hx3.setCell (p := ⟨g, k5, none⟩) hg (.int .u8 2)
                have q4 := hm4.set_ ⟨g, k5, none⟩ (.int .u8 2)
                have q5 := hm5.set_ ⟨g, k5, none⟩ (.int .u8 2)
                have q6 := hm6.set_ ⟨g, k5, none⟩ (.int .u8 2)
                clear hx3 hm4 hm5 hm6 hroom
                go_wp2_with fail
                exact ⟨⟨k5 + 1, by omega, by go_num, q1, q4, q5, q6⟩, by simp [intOf]; omega⟩
              · go_wp2_with fail
                clear hlt5 hk5
                obtain ⟨wo, rfl⟩ : ∃ wo : World, wo = wr := ⟨_, rfl⟩
                go_loopw [14] (fun i wr => ∃ k : Nat, k ≤ n6 ∧ i = .int .i64 (k : Int) ∧ Ext w3 wr ∧ Mine w3.heap.size wr A4 n4 ∧ Mine w3.heap.size wr A5 n5 ∧ Mine w3.heap.size wr A6 n6) (fun i _ => n6 - (intOf i).toNat)
                case atStart => exact ⟨0, Nat.zero_le _, rfl, hx3, hm4, hm5, hm6⟩
                case round =>
                  clear hx3 hm4 hm5 hm6
                  obtain ⟨k6, hk6, rfl, hx3, hm4, hm5, hm6⟩ := hrel
                  by_cases hlt6 : k6 < n6
                  · obtain ⟨g, rfl, hg, hroom⟩ := hm6 (by omega)
                    obtain ⟨⟨old, hc⟩, hf⟩ := hroom.at_ hlt6
                    have hi1 : (k6 : Int) < (n6 : Int) := by omega
                    have q1 := hx3.setCell (p := ⟨g, k6, none⟩) hg (.int .u8 3)
                    have q4 := hm4.set_ ⟨g, k6, none⟩ (.int .u8 3)
                    have q5 := hm5.set_ ⟨g, k6, none⟩ (.int .u8 3)
                    have q6 := hm6.set_ ⟨g, k6, none⟩ (.int .u8 3)
                    clear hx3 hm4 hm5 hm6 hroom
                    go_wp2_with fail
                    exact ⟨⟨k6 + 1, by omega, by go_num, q1, q4, q5, q6⟩, by simp [intOf]; omega⟩
                  · go_wp2_with fail
                    clear hlt6 hk6
                    obtain ⟨wo, rfl⟩ : ∃ wo : World, wo = wr := ⟨_, rfl⟩
                    clear hm4 hm5 hm6
                    go_loopw [15] (fun i wr => ∃ a : Nat, a ≤ 40 ∧ i = .int .i64 ((l.length + a : Nat) : Int) ∧ wr = wo) (fun i _ => l.length + 40 - (intOf i).toNat)
                    case atStart => exact ⟨0, Nat.zero_le _, rfl, rfl⟩
                    case round =>
                      obtain ⟨a, ha, rfl, rfl⟩ := hrel
                      by_cases hlt : a < 40
                      · obtain ⟨hc1, hf1⟩ := (HB.out.ext hx3).at_ (j := l.length + a) (by have := HF.out; omega)
                        have e77 : (l ++ List.replicate 40 (77 : UInt8))[l.length + a]'(by have := HF.out; omega) = 77 := fill_at l 40 a _
                        rw [e77] at hc1
                        have hc2 : wr.cell? ⟨w.heap.size, l.length + a, none⟩ = some (.int .u8 77) := hc1
                        clear hc1 e77
                        have hi1 : (l.length : Int) + (a : Int) < (l.length : Int) + 40 := by omega
                        go_wp2_with fail
                        exact ⟨⟨a + 1, by omega, by go_num, trivial⟩, by simp [intOf]; omega⟩
                      · have hF : (l ++ List.replicate 40 (77 : UInt8)).length = l.length + 40 := HF.out
                        have hFt : (l ++ List.replicate 40 (77 : UInt8)).take l.length = l := by simp
                        have hin0 := (HB.out.ext hx3).inB
                        rw [hF] at hin0
                        obtain ⟨A7, c7, hsl, hin7⟩ := preB hin0 l.length (by simp)
                        rw [hFt] at hin7
                        clear hF hFt hin0
                        go_wp2_with fail
                        refine (sameList_any _ _ l l wr hin7 (hx.ext (hex.trans hx3)) (by omega) (by omega)).mono ?_
                        rintro e w9 ⟨rfl, n9, rfl⟩
                        simp only [decide_true]
                        have he9 := (hex.trans hx3).drewN n9
                        generalize wr.drewN n9 = w9 at *
                        go_wp2_with fail
                        refine (known_any w9).mono ?_
                        rintro e w10 ⟨rfl, he10⟩
                        go_wp2_with fail
                        go_ret
                        exact ⟨rfl, he9.trans he10⟩
end Go.Proofs.Ytcicehnbkhecdaa
