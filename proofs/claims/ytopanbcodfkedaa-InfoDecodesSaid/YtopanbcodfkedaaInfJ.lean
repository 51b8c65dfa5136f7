/- The walk that reads the entries of a tree. -/
import Derived.Test.YtopanbcodfkedaaInfI
namespace Go.Proofs.Ytopanbcodfkedaa
open Go.RowKit
set_option linter.unusedVariables false
set_option linter.unusedSimpArgs false

def shpCells (z : Shp × Value) : List Value := [.int .i64 z.1.tag, .bool z.1.kids, z.2]
theorem shp_load {w : World} {b o : Nat} {t : Shp} {y : Value} (h : w.rangeAt b o (shpCells (t, y))) : (Instr.loadAt 96 (.pointer (some ⟨b, o, none⟩))).run Try.prog w = .ok (.agg #[.int .i64 t.tag, .bool t.kids, y]) w :=
  run_loadAt_mid (P := Try.prog) w b o 96 _ _ h Try.underlying96 rfl (by kernel_rfl)
/-- shapes that may have been read -/
def ShpOK (s : Shp) : Prop := s.attrs.length ≤ 12 ∧ ∀ a ∈ s.attrs, 1 ≤ a.form ∧ a.form ≤ 4
theorem Kept.own1 {α : Type} {f : α → List Value} {k : Nat} {e : TypeId} {b0 gr : Nat} {w W : World} {v : Value} {l : List α} {C : Array Value} {t : TypeId} {fr : Nat × Nat} (h : Kept w.heap.size [gr] w W) (ho : OwnR f k e b0 w v l) (hr : w.heap[gr]? = some (.cells C t fr)) (hne : e ≠ t) : OwnR f k e b0 W v l :=
  h.ownR ho (fun i hi => ⟨ho.lt i hi, fun hm => by
    simp only [List.mem_cons, List.not_mem_nil, or_false] at hm
    subst hm
    exact ho.ne_blk hr hne hi⟩)
theorem Kept.eown {b0 gr : Nat} {w W : World} {v : Value} {l : List Ent} {C : Array Value} {fr : Nat × Nat} (h : Kept w.heap.size [gr] w W) (ho : EOwn b0 w v l) (hr : w.heap[gr]? = some (.cells C 93 fr)) : EOwn b0 W v l := by
  obtain ⟨zs, h1, h2, h3⟩ := ho
  exact ⟨zs, h1, h.own1 h2 hr (by decide), fun z hz => h.own1 (h3 z hz) hr (by decide)⟩
theorem Kept.drop1 {w W W' : World} {gr : Nat} (h : Kept w.heap.size [gr] w W) (hk : Kept W.heap.size [gr] W W') : Kept w.heap.size [gr] w W' := h.trans (hk.low' h.size)
structure TT (w : World) (gd : Nat) (x sv : Value) (q : Int) (v : Value) (l : List Ent) (W : World) : Prop where
  own : EOwn w.heap.size W v l
  rd : W.heap[gd]? = some (.cells #[x, .int .i64 q, sv] 93 (0, 0))
  kept : Kept w.heap.size [gd] w W
  low : gd < w.heap.size
section
variable {w W W' : World} {gd : Nat} {x sv : Value} {q q' : Int} {v : Value} {l : List Ent}
theorem TT.ext (h : TT w gd x sv q v l W) (he : Ext W W') : TT w gd x sv q v l W' := ⟨h.own.ext he, he.heap h.rd, h.kept.trans (Kept.of_ext he h.kept.size), h.low⟩
theorem TT.next (h : TT w gd x sv q v l W) (hk : Kept W.heap.size [gd] W W') (hb : W'.heap[gd]? = some (.cells #[x, .int .i64 q', sv] 93 (0, 0))) : TT w gd x sv q' v l W' :=
  ⟨hk.eown h.own h.rd, hb, h.kept.drop1 hk, h.low⟩
theorem TT.reader (h : TT w gd x sv q v l W) (hg : W.grownBy W' (some gd)) (hb : W'.heap[gd]? = some (.cells #[x, .int .i64 q', sv] 93 (0, 0))) : TT w gd x sv q' v l W' :=
  h.next (Kept.of_grown hg (Nat.le_refl _) (fun k e => by cases e; exact .inr (by simp))) hb
end
def TreePost (gd : Nat) (x sv : Value) (r : Except Int (List Ent × Int)) (w : World) (en : Ending) (w' : World) : Prop :=
  match r with
  | .error e => en = .returned (.tuple #[.slice none 0 0, .int .i64 e]) ∧ e ≠ 0 ∧ Kept w.heap.size [gd] w w'
  | .ok (l, q) => ∃ y, en = .returned (.tuple #[y, .int .i64 0]) ∧ TT w gd x sv q y l w'
theorem valD_pos {a a' : Att} {b : List UInt8} {p q : Int} (h : valD a b p = .ok (a', q)) (hp : p ≤ b.length) : p ≤ q ∧ q ≤ b.length := by
  unfold valD at h
  split at h
  · split at h
    · cases h
    · rename_i h1
      injection h with h
      injection h with h2 h3
      have := betR_ok h1
      omega
  · split at h
    · split at h
      · cases h
      · rename_i h1
        injection h with h
        injection h with h2 h3
        have := intR_fwd (l := b) (p := p) (by simpa using h1)
        omega
    · split at h
      · split at h
        · cases h
        · split at h
          · cases h
          · rename_i h1
            injection h with h
            injection h with h2 h3
            have := textR_next (b := b) (p := p) (by simpa using h1)
            omega
      · injection h with h
        injection h with h2 h3
        omega
theorem valsD_pos {b : List UInt8} : ∀ {r l m : List Att} {p q : Int}, valsD b r l p = .ok (m, q) → p ≤ b.length → p ≤ q ∧ q ≤ b.length
  | [], l, m, p, q, h, hp => by
    unfold valsD at h
    injection h with h
    injection h with h2 h3
    omega
  | a :: r, l, m, p, q, h, hp => by
    unfold valsD at h
    rcases ha : valD a b p with e | ⟨x, q1⟩
    · rw [ha] at h; cases h
    rw [ha] at h
    have h1 := valD_pos ha hp
    have h2 := valsD_pos h h1.2
    omega
theorem TT.pos {w W : World} {gd : Nat} {x sv v : Value} {q : Int} {l : List Ent} (h : TT w gd x sv q v l W) : (W.cell? ⟨gd, 1, none⟩) = some (.int .i64 q) := blk_at h.rd 1 _ rfl
set_option maxHeartbeats 40000000 in
set_option maxRecDepth 100000 in
theorem dtree_any (gd : Nat) (x sv : Value) (zs : List (Shp × Value)) (S : List Shp) (b : List UInt8) (w : World) (hx : St [gd] w (fun W => InB W x b)) (hS : St [gd] w (fun W => InR shpCells W sv zs ∧ ∀ z ∈ zs, InR attCells W z.2 z.1.attrs)) (hz : zs.map Prod.fst = S) (hok : ∀ s ∈ S, ShpOK s) (hb : w.heap[gd]? = some (.cells #[x, .int .i64 0, sv] 93 (0, 0))) (hl : b.length ≤ 1000000) (h200 : S.length ≤ 200) :
    Calls Try.prog 38 #[.pointer (some ⟨gd, 0, none⟩)] w (TreePost gd x sv (treeD S b (b.length + 1) [] 0 false 0) w) := by
  obtain ⟨A0, c0, rfl, _, _⟩ := id hx.out
  obtain ⟨n0, hn0⟩ : ∃ n0, n0 = b.length := ⟨_, rfl⟩
  rw [← hn0] at hx hb ⊢
  have hzl : zs.length = S.length := by rw [← hz]; simp
  obtain ⟨AS, cS, rfl, _⟩ := id hS.out.1
  obtain ⟨n, hn⟩ : ∃ n, n = zs.length := ⟨_, rfl⟩
  have h200n : n ≤ 200 := by omega
  rw [← hn] at hS hb ⊢
  have HX := Lib.hid hx
  have HS := Lib.hid hS
  have HZ := Lib.hid hz
  have HOK := Lib.hid hok
  have HN := Lib.hid hn
  have HNS : Hid (n = S.length) := Lib.hid (by omega)
  have HN0 := Lib.hid hn0
  have hT0 : TT w gd (.slice A0 n0 c0) (.slice AS n cS) 0 (.slice none 0 0) [] w := ⟨EOwn.nil _ _, hb, Kept.refl _ _ _, heap_lt hb⟩
  have hn0l : n0 ≤ 1000000 := by omega
  clear hx hS hz hok hn hb hzl hn0 h200
  go_enter Try.func38, Try.ntmps38
  go_wp2_with fail
  go_loopw [4, 5, 6] (fun v dv cv wr => ∃ (l : List Ent) (dp : Int) (ch : Bool) (q : Int) (f : Nat), dv = .int .i64 dp ∧ cv = .bool ch ∧ (0 ≤ dp ∧ dp ≤ 33) ∧ (l ≠ [] → 1 ≤ dp) ∧ (0 ≤ q ∧ q ≤ n0) ∧ (n0 : Int) + 1 ≤ f + q ∧ Hid (treeD S b (n0 + 1) [] 0 false 0 = treeD S b f l dp ch q) ∧ l.length ≤ 4000 ∧ TT w gd (.slice A0 n0 c0) (.slice AS n cS) q v l wr) (fun _ _ _ W => n0 + 1 - (intOf ((W.cell? ⟨gd, 1, none⟩).getD (.int .i64 0))).toNat)
  case atStart => exact ⟨[], 0, false, 0, n0 + 1, rfl, rfl, by omega, by simp, by omega, by omega, Lib.hid rfl, by simp, hT0⟩
  case round =>
    clear hT0
    obtain ⟨l, dp, ch, q, f0, rfl, rfl, hdp, hne, hq, hf, HP, hll, hT⟩ := hrel
    obtain ⟨wo, rfl⟩ : ∃ W : World, W = wr := ⟨_, rfl⟩
    obtain ⟨f, rfl⟩ : ∃ f, f0 = f + 1 := ⟨f0 - 1, by omega⟩
    go_wp2_with fail
    have hpos0 := hT.pos
    have hb1 := inU_any gd 93 [.slice AS n cS] (.slice A0 n0 c0) b q wo (HX.out wo hT.kept) hT.rd hl
    obtain ⟨v, next, er, hr⟩ : ∃ v next er, uintR b q = (v, next, er) := ⟨_, _, _, rfl⟩
    have hnx := fun h => uintR_next (l := b) (p := q) h
    have hv0 : 0 ≤ (uintR b q).1 := by unfold uintR; simp
    have HUF : Hid (treeD S b (f + 1) l dp ch q = if (uintR b q).2.2 ≠ 0 then .error (uintR b q).2.2
      else if (uintR b q).1 = 0 then (if l = [] ∨ ch = true then .error 4 else if dp - 1 = 0 then .ok (l, (uintR b q).2.1) else treeD S b f l (dp - 1) ch (uintR b q).2.1)
      else match S[((uintR b q).1 - 1).toNat]? with
        | none => .error 12
        | some s => if l.length = 4000 ∨ 32 < dp then .error 5 else match valsD b s.attrs [] (uintR b q).2.1 with
          | .error e => .error e
          | .ok (vs, q) => if (if s.kids then dp + 1 else dp) = 0 then .ok (l ++ [⟨dp, s.tag, vs⟩], q) else treeD S b f (l ++ [⟨dp, s.tag, vs⟩]) (if s.kids then dp + 1 else dp) s.kids q) := Lib.hid rfl
    rw [hr] at hnx hv0 HUF
    dsimp only at hnx hv0 HUF
    refine hb1.mono ?_
    rintro en w2 ⟨rfl, hrd2, hg2⟩
    rw [hr] at hrd2 ⊢
    dsimp only at hrd2 ⊢
    clear hb1 hr
    by_cases h0 : er = 0
    case neg =>
      have HPF : Hid (treeD S b (n0 + 1) [] 0 false 0 = .error er) := Lib.hid (by rw [HP.out, HUF.out, if_pos h0])
      have e0 : (er != 0) = true := by simpa using h0
      have HE0 := Lib.hid h0
      have hK := hT.kept.trans (Kept.of_grown (xs := [gd]) hg2 hT.kept.size (fun k e => by cases e; exact .inr (by simp)))
      clear h0 hrd2 hg2 hT hnx
      go_wp2_with fail
      refine bodyPost_ret (by simp [results, Try.results38, go_sem]; rfl) rfl ?_
      rw [HPF.out]
      exact ⟨rfl, HE0.out, hK⟩
    rw [if_pos h0] at hrd2
    have hnx1 := hnx h0
    have hT2 := hT.reader hg2 hrd2
    have e0 : (er != 0) = false := by simpa using h0
    have hpos := hT2.pos
    have hn1 : 0 ≤ q ∧ q < next ∧ next ≤ n0 := by have := HN0.out; omega
    have HUG : Hid (treeD S b (n0 + 1) [] 0 false 0 = if v = 0 then (if l = [] ∨ ch = true then .error 4 else if dp - 1 = 0 then .ok (l, next) else treeD S b f l (dp - 1) ch next)
      else match S[(v - 1).toNat]? with
        | none => .error 12
        | some s => if l.length = 4000 ∨ 32 < dp then .error 5 else match valsD b s.attrs [] next with
          | .error e => .error e
          | .ok (vs, q) => if (if s.kids then dp + 1 else dp) = 0 then .ok (l ++ [⟨dp, s.tag, vs⟩], q) else treeD S b f (l ++ [⟨dp, s.tag, vs⟩]) (if s.kids then dp + 1 else dp) s.kids q) := Lib.hid (by rw [HP.out, HUF.out, if_neg (by simpa using h0)])
    clear hnx hnx1 hrd2 hg2 hT HUF HP h0
    obtain ⟨A4, c4, hv4⟩ := hT2.own.in_.form
    obtain ⟨nl, hnl⟩ : ∃ m, m = l.length := ⟨_, rfl⟩
    rw [← hnl] at hv4 hll
    have HNL := Lib.hid hnl
    subst hv4
    have hl0 : nl ≠ 0 → 1 ≤ dp := fun h => hne (fun e => by rw [e] at hnl; exact h hnl)
    clear hne hnl
    by_cases hz : v = 0
    case pos =>
      have e1 : (v == 0) = true := by simpa using hz
      by_cases hl1 : nl = 0
      case pos =>
        have HPF : Hid (treeD S b (n0 + 1) [] 0 false 0 = .error 4) := Lib.hid (by
          rw [HUG.out, if_pos hz, if_pos (.inl (List.length_eq_zero_iff.1 (by have := HNL.out; omega)))])
        have e2 : (((nl : Nat) : Int) == 0) = true := by simp [hl1]
        have HE0 : Hid ((4 : Int) ≠ 0) := Lib.hid (by decide)
        have hK := hT2.kept
        clear hz hT2 hl0 hl1
        go_wp2_with fail
        refine bodyPost_ret (by simp [results, Try.results38, go_sem]; rfl) rfl ?_
        rw [HPF.out]
        exact ⟨rfl, HE0.out, hK⟩
      have e2 : (((nl : Nat) : Int) == 0) = false := by simp [hl1]
      cases ch with
      | true =>
        have HPF : Hid (treeD S b (n0 + 1) [] 0 false 0 = .error 4) := Lib.hid (by
          rw [HUG.out, if_pos hz, if_pos (.inr rfl)])
        have HE0 : Hid ((4 : Int) ≠ 0) := Lib.hid (by decide)
        have hK := hT2.kept
        clear hz hT2 hl0 hl1
        go_wp2_with fail
        refine bodyPost_ret (by simp [results, Try.results38, go_sem]; rfl) rfl ?_
        rw [HPF.out]
        exact ⟨rfl, HE0.out, hK⟩
      | false =>
        have HUH : Hid (treeD S b (n0 + 1) [] 0 false 0 = if dp - 1 = 0 then .ok (l, next) else treeD S b f l (dp - 1) false next) := Lib.hid (by
          rw [HUG.out, if_pos hz, if_neg (fun h => by
            rcases h with h | h
            · exact hl1 (by rw [HNL.out, h]; rfl)
            · cases h)])
        have hd1 := hl0 hl1
        by_cases hd2 : dp - 1 = 0
        case pos =>
          have HPF : Hid (treeD S b (n0 + 1) [] 0 false 0 = .ok (l, next)) := Lib.hid (by rw [HUH.out, if_pos hd2])
          have e3 : ((dp - 1) == 0) = true := by simpa using hd2
          clear hd2 hz hl1 hl0 HUH HUG
          go_wp2_with fail
          refine bodyPost_ret (by simp [results, Try.results38, go_sem]; rfl) rfl ?_
          rw [HPF.out]
          exact ⟨_, rfl, hT2⟩
        have HPN : Hid (treeD S b (n0 + 1) [] 0 false 0 = treeD S b f l (dp - 1) false next) := Lib.hid (by rw [HUH.out, if_neg hd2])
        have e3 : ((dp - 1) == 0) = false := by simpa using hd2
        have hd3 : 1 ≤ dp - 1 := by omega
        have hposN := hpos
        have hpos := hpos0
        have hll2 : l.length ≤ 4000 := by rw [← HNL.out]; exact hll
        clear hd2 hz hl1 hl0 HUH HUG
        go_wp2_with fail
        go_roundw
        case rel => exact ⟨l, dp - 1, false, next, f, by first | (with_reducible rfl) | go_num, rfl, by first | omega | (constructor <;> omega), fun _ => hd3, by omega, by omega, HPN, hll2, hT2⟩
        case measure => rw [hpos, hposN]; simp only [Option.getD_some, intOf]; omega
    have hv1 : 1 ≤ v := by omega
    have e1 : (v == 0) = false := by simpa using hz
    by_cases hvn : (n : Int) < v
    case pos =>
      have HPF : Hid (treeD S b (n0 + 1) [] 0 false 0 = .error 12) := Lib.hid (by
        rw [HUG.out, if_neg hz, List.getElem?_eq_none (by have := HNS.out; omega)])
      have d1 : decide ((n : Int) < v) = true := by simpa using hvn
      have HE0 : Hid ((12 : Int) ≠ 0) := Lib.hid (by decide)
      have hK := hT2.kept
      obtain ⟨r0, r1, r2⟩ := blk3 hT2.rd
      clear hz hT2 hl0 hvn
      go_wp2_with fail
      refine bodyPost_ret (by simp [results, Try.results38, go_sem]; rfl) rfl ?_
      rw [HPF.out]
      exact ⟨rfl, HE0.out, hK⟩
    have d1 : decide ((n : Int) < v) = false := by simpa using hvn
    obtain ⟨i, hi⟩ : ∃ i : Nat, v = (i : Int) + 1 := ⟨(v - 1).toNat, by omega⟩
    have hin : i < S.length := by have := HNS.out; omega
    have hzi : i < zs.length := by have := HN.out; omega
    have hii : 0 ≤ (i : Int) ∧ (i : Int) < (n : Int) := by omega
    have hsz : zs[i].1 = S[i] := by simp [← HZ.out]
    have HUI : Hid (treeD S b (n0 + 1) [] 0 false 0 = if l.length = 4000 ∨ 32 < dp then .error 5 else match valsD b zs[i].1.attrs [] next with
          | .error e => .error e
          | .ok (vs, q) => if (if zs[i].1.kids then dp + 1 else dp) = 0 then .ok (l ++ [⟨dp, zs[i].1.tag, vs⟩], q) else treeD S b f (l ++ [⟨dp, zs[i].1.tag, vs⟩]) (if zs[i].1.kids then dp + 1 else dp) zs[i].1.kids q) := Lib.hid (by
      have e : (v - 1).toNat = i := by omega
      rw [HUG.out, if_neg hz, e, List.getElem?_eq_getElem hin, hsz])
    have hso : ShpOK zs[i].1 := by rw [hsz]; exact HOK.out _ (List.getElem_mem hin)
    have hys0 : St [gd] w (fun W => InR attCells W zs[i].2 zs[i].1.attrs) := fun W hk => (HS.out W hk).2 _ (List.getElem_mem hzi)
    obtain ⟨bb, oo, hAe, hra⟩ := (HS.out _ hT2.kept).1.at_ (k := 3) (fun z hz => rfl) (by omega) hzi
    subst hAe
    clear hsz hin HUG hvn hz
    generalize zs[i] = z at *
    obtain ⟨s, y⟩ := z
    dsimp only at hso hys0 HUI
    obtain ⟨Ay, cy, hyv, _⟩ := id hys0.out
    obtain ⟨ny, hny⟩ : ∃ m, m = s.attrs.length := ⟨_, rfl⟩
    rw [← hny] at hyv
    have hny12 : ny ≤ 12 := by rw [hny]; exact hso.1
    clear hny
    subst hyv
    have HSO := Lib.hid hso
    have HYS := Lib.hid hys0
    clear hso hys0
    obtain ⟨r0, r1, r2⟩ := blk3 hT2.rd
    have hiv : IntKind.i64.wrap ((i : Int) + 1 - 1) = (i : Int) := by rw [IntKind.wrap_i64]; omega
    subst hi
    by_cases h4 : nl = 4000
    case pos =>
      have HPF : Hid (treeD S b (n0 + 1) [] 0 false 0 = .error 5) := Lib.hid (by
        rw [HUI.out, if_pos (.inl (by rw [← HNL.out]; exact h4))])
      have e3 : (((nl : Nat) : Int) == 4000) = true := by simp [h4]
      have HE0 : Hid ((5 : Int) ≠ 0) := Lib.hid (by decide)
      have hK := hT2.kept
      clear hT2 hl0 h4
      go_wp2_with fail
      refine bodyPost_ret (by simp [results, Try.results38, go_sem]; rfl) rfl ?_
      rw [HPF.out]
      exact ⟨rfl, HE0.out, hK⟩
    have H4 := Lib.hid h4
    have e3 : (((nl : Nat) : Int) == 4000) = false := by simp only [beq_eq_false_iff_ne, ne_eq]; omega
    by_cases h5 : 32 < dp
    case pos =>
      have HPF : Hid (treeD S b (n0 + 1) [] 0 false 0 = .error 5) := Lib.hid (by
        rw [HUI.out, if_pos (.inr h5)])
      have d5 : decide (32 < dp) = true := by simpa using h5
      have HE0 : Hid ((5 : Int) ≠ 0) := Lib.hid (by decide)
      have hK := hT2.kept
      clear hT2 hl0 h4 h5
      go_wp2_with fail
      refine bodyPost_ret (by simp [results, Try.results38, go_sem]; rfl) rfl ?_
      rw [HPF.out]
      exact ⟨rfl, HE0.out, hK⟩
    have d5 : decide (32 < dp) = false := by simpa using h5
    have HUJ : Hid (treeD S b (n0 + 1) [] 0 false 0 = match valsD b s.attrs [] next with
          | .error e => .error e
          | .ok (vs, q) => if (if s.kids then dp + 1 else dp) = 0 then .ok (l ++ [⟨dp, s.tag, vs⟩], q) else treeD S b f (l ++ [⟨dp, s.tag, vs⟩]) (if s.kids then dp + 1 else dp) s.kids q) := Lib.hid (by
      rw [HUI.out, if_neg (fun h => by
        rcases h with h | h
        · exact h4 (by rw [HNL.out]; exact h)
        · exact h5 h)])
    clear HUI
    have hld := shp_load hra
    obtain ⟨hst, hG, hXG⟩ := box_new (P := Try.prog) w2 96 #[.int .i64 0, .bool false, .slice none 0 0] #[.int .i64 s.tag, .bool s.kids, .slice Ay ny cy] ab_size rfl (by simp [Value.oneCell'])
    go_upto_region 16 with first | refine wpList_load_run rfl 96 (.tmp 52) rfl _ _ rfl hld ?_ | refine wpList_store_run rfl 96 (.tmp 9) (.tmp 53) rfl _ _ _ rfl rfl hst ?_
    obtain ⟨g9, hg9⟩ : ∃ g, g = w2.heap.size := ⟨_, rfl⟩
    have hgl : w.heap.size ≤ g9 := by rw [hg9]; exact hT2.kept.size
    rw [← hg9] at hG hXG ⊢
    generalize (w2.alloc (.cells #[.int .i64 0, .bool false, .slice none 0 0] 96)).setRow g9 #[.int .i64 s.tag, .bool s.kids, .slice Ay ny cy] = wg at *
    try dsimp only [Act.put]
    have hT3 := hT2.ext hXG
    have hgg : gd ≠ g9 := by have := hT3.low; omega
    clear hst hld hra hXG hg9 hT2 r0 r1 r2
    obtain ⟨r0, r1, r2⟩ := blk3 hG
    go_wp2_with fail
    have hxs : St [gd] wg (fun W => InB W (.slice A0 n0 c0) b) := HX.out.mono hT3.kept (fun i hi => .inl hi)
    have hys : St [gd] wg (fun W => InR attCells W (.slice Ay ny cy) s.attrs) := HYS.out.mono hT3.kept (fun i hi => .inl hi)
    have hb2 := vals_any gd _ _ [.slice (some ⟨bb, oo, none⟩) n cS] b s.attrs next wg hxs hys hT3.rd hl HSO.out.2 HSO.out.1
    rcases htr : valsD b s.attrs [] next with e | ⟨vs, q2⟩
    · rw [htr] at hb2
      refine hb2.mono ?_
      rintro en w5 ⟨rfl, he0, hk5⟩
      have hK := hT3.kept.drop1 hk5
      have HPF : Hid (treeD S b (n0 + 1) [] 0 false 0 = .error e) := Lib.hid (by rw [HUJ.out, htr])
      have e6 : (e != 0) = true := by simpa using he0
      have HE0 := Lib.hid he0
      clear htr hb2 he0 hk5 hT3 hxs hys hG r0 r1 r2 hl0 h4 h5
      go_wp2_with fail
      refine bodyPost_ret (by simp [results, Try.results38, go_sem]; rfl) rfl ?_
      rw [HPF.out]
      exact ⟨rfl, HE0.out, hK⟩
    rw [htr] at hb2
    have hq2 := valsD_pos htr (by have := HN0.out; omega)
    have hq3 : next ≤ q2 ∧ q2 ≤ n0 := by have := HN0.out; omega
    refine hb2.mono ?_
    rintro en w5 ⟨y5, rfl, hV5⟩
    have hT5 := hT3.next hV5.kept hV5.rd
    have hG5 := hV5.kept.heap hG (heap_lt hG) (by simp only [List.mem_cons, List.not_mem_nil, or_false]; omega)
    have own5 := hV5.own.low hT3.kept.size
    have HUK : Hid (treeD S b (n0 + 1) [] 0 false 0 = if (if s.kids then dp + 1 else dp) = 0 then .ok (l ++ [⟨dp, s.tag, vs⟩], q2) else treeD S b f (l ++ [⟨dp, s.tag, vs⟩]) (if s.kids then dp + 1 else dp) s.kids q2) := Lib.hid (by rw [HUJ.out, htr])
    clear htr hb2 hV5 hT3 hxs hys hG r0 r1 r2 hq2 HUJ
    obtain ⟨A5, c5, hy5, _⟩ := id own5.inR
    obtain ⟨n5, hn5⟩ : ∃ m, m = vs.length := ⟨_, rfl⟩
    rw [← hn5] at hy5
    subst hy5
    clear hn5
    obtain ⟨ent, hent⟩ : ∃ e : Ent, e = ⟨dp, s.tag, vs⟩ := ⟨_, rfl⟩
    rw [← hent] at HUK
    obtain ⟨zt, hz1, hz2, hz3⟩ := hT5.own
    have HZ1 := Lib.hid hz1
    have HZ3 := Lib.hid hz3
    have hzl : zt.length ≤ 4000 := by
      have h1 : zt.length = l.length := by rw [← hz1]; simp
      rw [h1, ← HNL.out]; exact hll
    clear hz1 hz3
    have hA5 := (Ext.refl w5).alloc (.cells #[.int .i64 dp, .int .i64 s.tag, .slice A5 n5 c5] 26)
    have hin5 : InR entCells (w5.alloc (.cells #[.int .i64 dp, .int .i64 s.tag, .slice A5 n5 c5] 26)) (.slice (some ⟨w5.heap.size, 0, none⟩) 1 1) [(ent, .slice A5 n5 c5)] := by rw [hent]; exact (OwnR_one (f := entCells) w5 ((⟨dp, s.tag, vs⟩ : Ent), .slice A5 n5 c5) rfl 26).inR
    have HAT : Hid (ent.attrs = vs) := Lib.hid (by rw [hent])
    have hone : ∀ z ∈ [(ent, (Value.slice A5 n5 c5))], ∀ u ∈ entCells z, u.oneCell' = true := fun z hz u hu => by
      simp only [List.mem_singleton] at hz
      subst hz
      simp only [entCells, List.mem_cons, List.not_mem_nil, or_false] at hu
      rcases hu with rfl | rfl | rfl <;> rfl
    have hza := hz2.ext hA5
    have hszd : w.heap.size ≤ (w5.alloc (.cells #[.int .i64 dp, .int .i64 s.tag, .slice A5 n5 c5] 26)).heap.size := Nat.le_trans hT5.kept.size hA5.size
    have hrda := hA5.heap hT5.rd
    have hGa := hA5.heap hG5
    have owna := own5.ext hA5
    have hka := hT5.kept.trans (Kept.of_ext hA5 hT5.kept.size)
    have hlow := hT5.low
    obtain ⟨r0, r1, r2⟩ := blk3 hG5
    have hposx := hpos0
    clear hent own5 hT5 hG5 hpos hl0 h4
    go_wp2_with first | refine wpList_rowOne elem_en rfl (.tmp 69) rfl #[.int .i64 dp, .int .i64 s.tag, .slice A5 n5 c5] rfl rfl (by omega) ?_ | (at_builtin; go_must (refine wpList_appendR elem_en rfl (.tmp 64) (.tmp 70) rfl w.heap.size _ zt rfl hza _ [(ent, .slice A5 n5 c5)] rfl hin5 (fun _ _ => rfl) hone (by simp only [List.length_cons, List.length_nil]; omega) (by omega) hszd (Hold.out ?_)))
    refine Hold.mk fun v9 w9 ho9 hg9 => ?_
    have hT9 : TT w gd (.slice A0 n0 c0) (.slice (some ⟨bb, oo, none⟩) n cS) q2 v9 (l ++ [ent]) w9 := by
      refine ⟨⟨zt ++ [(ent, .slice A5 n5 c5)], by rw [List.map_append, HZ1.out]; rfl, ho9, fun z hz => ?_⟩, blk_grown hrda hg9.grown (fun e => hza.ne_blk hrda (by decide) e.symm), hka.trans (Kept.of_grown hg9.grown hszd (fun k e => .inl (hza.ge k e))), hlow⟩
      rcases List.mem_append.1 hz with hz | hz
      · have h1 := (HZ3.out z hz).ext hA5
        exact h1.kept hg9.grown (row_ne h1 hza (by decide))
      · simp only [List.mem_singleton] at hz
        subst hz
        have h1 : OwnR attCells 4 40 w.heap.size w9 (.slice A5 n5 c5) vs := owna.kept hg9.grown (row_ne owna hza (by decide))
        rw [← HAT.out] at h1
        exact h1
    have hG9 := blk_grown hGa hg9.grown (fun e => hza.ne_blk hGa (by decide) e.symm)
    clear ho9 hg9 hza hrda hGa owna hka hA5 hin5 hone hszd hz2 r0 r1 r2
    obtain ⟨r0, r1, r2⟩ := blk3 hG9
    have hposN := hT9.pos
    have hpos := hposx
    have hll2 : (l ++ [ent]).length ≤ 4000 := by
      have h1 : nl = l.length := HNL.out
      rw [List.length_append]
      simp only [List.length_cons, List.length_nil]
      have := H4.out
      omega
    clear hlow hposx
    cases hkd : s.kids with
    | true =>
      rw [hkd] at r1
      have e7 : ((dp + 1) == 0) = false := by simp only [beq_eq_false_iff_ne, ne_eq]; omega
      have HPN : Hid (treeD S b (n0 + 1) [] 0 false 0 = treeD S b f (l ++ [ent]) (dp + 1) true q2) := Lib.hid (by
        rw [HUK.out, hkd]
        simp only [if_true]
        rw [if_neg (by omega)])
      have hd3 : 1 ≤ dp + 1 := by omega
      clear hkd HUK
      go_wp2_with fail
      go_roundw
      case rel => exact ⟨l ++ [ent], dp + 1, true, q2, f, by first | (with_reducible rfl) | go_num, rfl, by first | omega | (constructor <;> omega), fun _ => hd3, by omega, by omega, HPN, hll2, hT9⟩
      case measure => rw [hpos, hposN]; simp only [Option.getD_some, intOf]; omega
    | false =>
      rw [hkd] at r1
      by_cases hd0 : dp = 0
      case pos =>
        have HPF : Hid (treeD S b (n0 + 1) [] 0 false 0 = .ok (l ++ [ent], q2)) := Lib.hid (by
          rw [HUK.out, hkd]
          simp only [Bool.false_eq_true, if_false]
          rw [if_pos hd0])
        have e7 : (dp == 0) = true := by simpa using hd0
        clear hd0 hkd HUK
        go_wp2_with fail
        refine bodyPost_ret (by simp [results, Try.results38, go_sem]; rfl) rfl ?_
        rw [HPF.out]
        exact ⟨_, rfl, hT9⟩
      have HPN : Hid (treeD S b (n0 + 1) [] 0 false 0 = treeD S b f (l ++ [ent]) dp false q2) := Lib.hid (by
        rw [HUK.out, hkd]
        simp only [Bool.false_eq_true, if_false]
        rw [if_neg hd0])
      have e7 : (dp == 0) = false := by simpa using hd0
      have hd3 : 1 ≤ dp := by omega
      clear hd0 hkd HUK
      go_wp2_with fail
      go_roundw
      case rel => exact ⟨l ++ [ent], dp, false, q2, f, by first | (with_reducible rfl) | go_num, rfl, by first | omega | (constructor <;> omega), fun _ => hd3, by omega, by omega, HPN, hll2, hT9⟩
      case measure => rw [hpos, hposN]; simp only [Option.getD_some, intOf]; omega
end Go.Proofs.Ytopanbcodfkedaa
