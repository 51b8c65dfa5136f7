/- The contracts of packet.Encode and of the reference's Encode. -/
import Derived.Test.YtnobepobalpccaaPacketB
import Derived.Test.YtnobepobalpccaaWireR
import Derived.Test.YtnobepobalpccaaRegion2
import Derived.Test.YtnobepobalpccaaPlain2
namespace Go.Proofs.Ytnobepobalpccaa
open Go.RowKit
set_option linter.unusedVariables false

theorem elem_u8 : Elem1 Try.prog 32 5 1 := by
  obtain ⟨i0, hi, hz0, hz1, hz2⟩ := info_parts u8_info
  exact ⟨Try.underlying32, i0, _, hi, hz0, hz1, hz2, rfl⟩
theorem OwnB.toV {base : Nat} {w : World} {v : Value} {l : List UInt8} (h : OwnB base w v l) : OwnV bv 5 base w v l := h
theorem OwnV_new2 {α : Type} {f : α → Value} (w : World) (x y : α) (e : TypeId) : OwnV f e w.heap.size (w.alloc (.cells #[f x, f y] e)) (.slice (some ⟨w.heap.size, 0, none⟩) 2 2) [x, y] :=
  ⟨rfl, .inr ⟨w.heap.size, 2, #[f x, f y], rfl, Nat.le_refl _, heap_alloc_new w _, Nat.le_refl _, by decide, rfl, rfl⟩⟩

def numE (p : Pkt) : Nat → Int
  | 0 => p.src
  | 1 => p.dst
  | 2 => p.seq
  | 3 => p.ack
  | _ => (p.body.length : Int)
def kindB (p : Pkt) : UInt8 := UInt8.ofNat p.kind.toNat
/-- the bytes ahead of the body -/
def preP (p : Pkt) : Nat → List UInt8
  | 0 => [kindB p]
  | j + 1 => preP p j ++ uintB (numE p j)
def hiB (n : Nat) : UInt8 := UInt8.ofNat (n / 256)
def loB (n : Nat) : UInt8 := UInt8.ofNat (n % 256)
def sumB (l : List UInt8) : List UInt8 := [hiB (crcL 65535 l), loB (crcL 65535 l)]
/-- the datagram -/
def encP (p : Pkt) : List UInt8 := (preP p 5 ++ p.body) ++ sumB (preP p 5 ++ p.body)
theorem numE_ok {p : Pkt} (h : rightP p) (j : Nat) : 0 ≤ numE p j ∧ numE p j ≤ 1073741824 := by
  obtain ⟨h1, h2, h3, h4⟩ := four_of h.2.1
  have hb := h.1
  simp only [badP, not_or] at hb
  unfold numE
  split
  · exact h1
  · exact h2
  · exact h3
  · exact h4
  · omega
theorem preP_len {p : Pkt} (h : rightP p) (j : Nat) : (preP p j).length ≤ 1 + 10 * j := by
  induction j with
  | zero => simp [preP]
  | succ j ih =>
    have := uintB_len (v := numE p j) (by have := (numE_ok h j).2; omega)
    simp only [preP, List.length_append]; omega
theorem kindB_val {p : Pkt} (h : rightP p) : IntKind.u8.wrap p.kind = ((kindB p).toNat : Int) := by
  have hb := h.1
  simp only [badP, not_or] at hb
  have e : p.kind = (p.kind.toNat : Int) := by omega
  have h1 : p.kind.toNat < 256 := by omega
  unfold kindB
  rw [ofNat_small h1, ← e]
  simp [IntKind.wrap, IntKind.bits, IntKind.signed]; omega
theorem hiB_val {n : Nat} (h : n < 65536) : IntKind.u8.wrap ((n : Int) / 256) = ((hiB n).toNat : Int) := by
  unfold hiB
  rw [ofNat_small (by omega)]
  simp [IntKind.wrap, IntKind.bits, IntKind.signed]; omega
theorem loB_val {n : Nat} (h : n < 65536) : IntKind.u8.wrap (n : Int) = ((loB n).toNat : Int) := by
  unfold loB
  rw [ofNat_small (by omega)]
  simp [IntKind.wrap, IntKind.bits, IntKind.signed]

def EncPost (p : Pkt) (w : World) (e : Ending) (w' : World) : Prop := ∃ y er, e = .returned (.tuple #[y, .int .i64 er]) ∧ ((rightP p ∧ er = 0 ∧ OwnV bv 5 w.heap.size w' y (encP p)) ∨ (¬ rightP p ∧ er = 1 ∧ y = .slice none 0 0)) ∧ Ext w w'

set_option maxHeartbeats 1000000 in
set_option maxRecDepth 100000 in
theorem Encode_any (v : Value) (p : Pkt) (w : World) (hp : PktAt w v p) (hl : p.body.length ≤ 9223372036854775807) :
    Calls Try.prog 21 #[v] w (EncPost p w) := by
  have hP := hp
  obtain ⟨y, rfl, ⟨A, c, rfl, hcap, hr⟩⟩ := hp
  go_enter Try.func21, Try.ntmps21
  go_upto_region 1 with fail
  obtain ⟨W, hW, hE, hB⟩ : ∃ W, W = w.alloc (.cells #[.int .i64 p.kind, .int .i64 p.src, .int .i64 p.dst, .int .i64 p.seq, .int .i64 p.ack, .slice A p.body.length c] 56) ∧ Ext w W ∧ W.heap[w.heap.size]? = some (.cells #[.int .i64 p.kind, .int .i64 p.src, .int .i64 p.dst, .int .i64 p.seq, .int .i64 p.ack, .slice A p.body.length c] 56 (0, 0)) :=
    ⟨_, rfl, (Ext.refl w).alloc _, heap_alloc_new w _⟩
  rw [← hW]
  clear hW
  obtain ⟨q0, q1, q2, q3, q4, q5⟩ := blk6 hB
  go_wp2_with fail
  refine (Right_any _ p W (hP.ext hE) hl).mono ?_
  rintro e w1 ⟨r, rfl, hr1, he1⟩
  clear q0 q1 q2 q3 q4 q5
  obtain ⟨q0, q1, q2, q3, q4, q5⟩ := blk6 (he1.heap hB)
  have lt1 := World.block_lt_of_cell? _ _ q0
  simp only at lt1
  have hE1 := hE.trans he1
  cases r with
  | false =>
    have HR : Hid (¬ rightP p) := Lib.hid (fun h => by have := hr1.2 h; cases this)
    clear hr1
    go_wp2_with fail
    go_ret2
    exact ⟨_, _, rfl, .inr ⟨HR.out, rfl, rfl⟩, hE1⟩
  | true =>
    have HR := Lib.hid (hr1.1 rfl)
    clear hr1
    have hkv := kindB_val HR.out
    have hbl : p.body.length ≤ 6000 := by have := HR.out.1; simp only [badP, not_or] at this; omega
    have HP5 := Lib.hid (preP_len HR.out)
    have HNE := Lib.hid (numE_ok HR.out)
    go_wp2_with fail
    have hidx : ∀ j : Nat, j < 5 → ∀ w, (Instr.index 66 (.agg #[.int .i64 p.src, .int .i64 p.dst, .int .i64 p.seq, .int .i64 p.ack, .int .i64 (p.body.length : Int)]) (.int .i64 (j : Int))).run Try.prog w = .ok (.int .i64 (numE p j)) w := by
      intro j hj w
      rcases (show j = 0 ∨ j = 1 ∨ j = 2 ∨ j = 3 ∨ j = 4 by omega) with rfl | rfl | rfl | rfl | rfl <;> kernel_rfl
    have HI := Lib.hid hidx
    clear hidx hkv
    have ho0 := (OwnV_new (f := bv) w1 (kindB p) 5).low hE1.size
    have he0 := (Ext.refl w1).alloc (.cells #[bv (kindB p)] 5)
    have hB0 := he0.heap (he1.heap hB)
    have hE0 := hE1.trans he0
    have hP0 : preP p 0 = [kindB p] := rfl
    rw [← hP0] at ho0
    unfold bv at ho0 he0 hB0 hE0
    generalize w1.alloc (.cells #[.int .u8 ((kindB p).toNat : Int)] 5) = w2 at *
    clear hP0 he0 q0 q1 q2 q3 q4 q5 lt1
    go_loopw [4, 27] (fun b i wr => ∃ j : Nat, j ≤ 5 ∧ i = .int .i64 (j : Int) ∧ OwnV bv 5 w.heap.size wr b (preP p j) ∧ Ext w2 wr) (fun _ i _ => 5 - (intOf i).toNat)
    case atStart => exact ⟨0, by omega, rfl, ho0, Ext.refl w2⟩
    case round =>
      clear ho0
      obtain ⟨j, hj, rfl, ho, hx⟩ := hrel
      obtain ⟨wo, rfl⟩ : ∃ wo : World, wo = wr := ⟨_, rfl⟩
      by_cases hj5 : j < 5
      · have hi0 := HI.out j hj5
        have hij : (j : Int) < 5 := by omega
        have hn := HNE.out j
        have hpl := HP5.out j
        have HN : Hid (preP p (j + 1) = preP p j ++ uintB (numE p j)) := Lib.hid rfl
        generalize numE p j = n at *
        obtain ⟨X, cx, rfl, _, _⟩ := ho.inV
        go_wp2_with fail
        refine (AppendUint_any _ (preP p j) n wo ho.inV (by omega) (by omega)).mono ?_
        rintro e w3 ⟨y3, rfl, ho3, he3⟩
        have ho4 := ho3.toV.low (base' := w.heap.size) (hE0.trans hx).size
        rw [← HN.out] at ho4
        have hx4 := hx.trans he3
        clear ho3 ho
        go_wp2_with fail
        go_roundw
        case rel => exact ⟨j + 1, by omega, by go_num, ho4, hx4⟩
        case measure => simp [intOf]; omega
      · obtain rfl : j = 5 := by omega
        have hpl := HP5.out 5
        obtain ⟨q0, q1, q2, q3, q4, q5⟩ := blk6 (hx.heap hB0)
        have hEo := hE0.trans hx
        have HEN : Hid (encP p = (preP p 5 ++ p.body) ++ sumB (preP p 5 ++ p.body)) := Lib.hid rfl
        have hbody : InB wo (.slice A p.body.length c) p.body := (InV.mk hcap hr).ext hEo
        generalize preP p 5 = pp at *
        obtain ⟨X, cx, rfl, _, _⟩ := ho.inV
        go_wp2_with (at_builtin; go_must (refine wpList_appendV elem_u8 (fun _ => rfl) rfl (.tmp 34) (.tmp 36) rfl w.heap.size (.slice X pp.length cx) pp rfl ho _ p.body rfl hbody (by omega) (by omega) hEo.size (Hold.out ?_)))
        refine Hold.mk fun v6 w6 ho6 hg6 => ?_
        have hE6 := hg6.ext hEo ho.ge
        obtain ⟨Y, cy, rfl, _, _⟩ := ho6.inV
        have hlen : (pp ++ p.body).length ≤ 6051 := by simp; omega
        have hcl := crcL_lt (pp ++ p.body) (r := 65535) (by omega)
        generalize pp ++ p.body = pb at *
        clear hg6 ho hx hEo hbody q0 q1 q2 q3 q4 q5
        go_wp2_with fail
        refine (Sum_any _ pb w6 ho6.inV (by omega)).mono ?_
        rintro e w7 ⟨rfl, rfl⟩
        have hhi := hiB_val hcl
        have hlo := loB_val hcl
        have HSB : Hid (sumB pb = [hiB (crcL 65535 pb), loB (crcL 65535 pb)]) := Lib.hid rfl
        generalize crcL 65535 pb = cr at *
        generalize hiB cr = hb at *
        generalize loB cr = lb at *
        go_wp2_with (at_builtin; go_must (refine wpList_appendV elem_u8 (fun _ => rfl) rfl (.tmp 40) (.tmp 46) rfl w.heap.size (.slice Y pb.length cy) pb rfl (ho6.ext ((Ext.refl w6).alloc _)) _ [hb, lb] rfl (OwnV_new2 (f := bv) w6 hb lb _).inV (by simp; omega) (by omega) (by have := hE6.size; simp; omega) (Hold.out ?_)))
        refine Hold.mk fun v8 w8 ho8 hg8 => ?_
        have hE8 := hg8.ext (hE6.alloc _) ho6.ge
        rw [← HSB.out, ← HEN.out] at ho8
        clear hg8 hhi hlo
        go_wp2
        go_ret2
        exact ⟨_, _, rfl, .inl ⟨HR.out, rfl, ho8⟩, hE8⟩
end Go.Proofs.Ytnobepobalpccaa
