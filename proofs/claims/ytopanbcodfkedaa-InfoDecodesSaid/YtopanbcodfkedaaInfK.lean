/- The walk of info.Decode. -/
import Derived.Test.YtopanbcodfkedaaInfJ
namespace Go.Proofs.Ytopanbcodfkedaa
open Go.RowKit
set_option linter.unusedVariables false
set_option linter.unusedSimpArgs false

theorem ab_info : (Try.prog.info? 96).map (fun i => (i.zero, i.size, i.bytes)) = some (some (.agg #[.int .i64 0, .bool false, .slice none 0 0]), 3, 40) := by kernel_rfl
theorem elem_ab : ElemN Try.prog 91 96 3 40 := by
  rcases hi : Try.prog.info? 96 with _ | i
  · have := ab_info; rw [hi] at this; cases this
  · have := ab_info
    rw [hi] at this
    simp only [Option.map_some, Option.some.injEq, Prod.mk.injEq] at this
    exact ⟨Try.underlying91, by omega, i, _, hi, this.1, this.2.1, this.2.2, rfl⟩
section
variable {P : Program}
theorem exec_load19 {W : World} {e : Operand → Value} {op : Oper} (ty : TypeId) (x : Operand) (ho : op.op = .load ty x) (v u : Value) (hx : e x = v) (hr : (Instr.loadAt ty v).run P W = .ok u W) : (execOp e op).run P W = .ok (.value u) W := by
  unfold execOp
  simp only [ho, hx, Sem.run_bind, hr, Result.andThen_ok, Sem.run_pure]
theorem wpZ_appendR {α : Type} {f : α → List Value} {md : Region.Mode} {ops : Array Oper} {Q : Exit → Act → World → Prop} {LF : Array Bool} {T : Nat → Array Bool → Act → World → Prop} {t e : TypeId} {k bytes : Nat} (he : ElemN P t e k bytes) (i : Nat) {o : Oper} {d : Tmp} {n : Nat} {listed : Array Bool} {tm : Array Value} {df : List Deferred} {w : World}
    (s x : Operand) (base : Nat) (v : Value) (l : List α) (y : Value) (m : List α) (ho : ops[i]? = some o) (hd : o.dst = some d) (hr : Region.ready md ops listed = [i]) (hLF : LF.getD i false = true) (hg : Region.wanted o (yielded ops tm) = true)
    (hop : o.op = .call { callee := .builtin .append, args := #[s, x], argTypes := #[t, t] }) (hs : (Act.mk tm df).eval s = v) (hx : (Act.mk tm df).eval x = y)
    (hown : OwnR f k e base w v l) (hin : InR f w y m) (hm : ∀ a ∈ m, (f a).length = k) (h1 : ∀ a ∈ m, ∀ u ∈ f a, u.oneCell' = true) (h63 : l.length + m.length ≤ 1073741824) (hb : bytes ≤ 4096) (hbase : base ≤ w.heap.size)
    (h : ∀ v' W W', Ext w W → OwnR f k e base W' v' (l ++ m) → Grew W W' v v' → wpZ P md ops Q LF v.ownBlock T n (listed.setIfInBounds i true) ⟨tm.setIfInBounds d v', df⟩ W') : wpZ P md ops Q LF v.ownBlock T (n + 1) listed ⟨tm, df⟩ w := by
  refine wpZ_m i ho hd hr hLF hg fun W hW => ?_
  obtain ⟨v', W', hrun, h2, h3⟩ := exec_appendR he (w := W) s x hop base v l hs (hown.ext hW) y m hx (hin.ext hW) hm h1 h63 hb (Nat.le_trans hbase hW.size)
  exact ⟨v', W', hrun, h3.grown, h v' W W' hW h2 h3⟩
end
theorem abbD_ok {b : List UInt8} {p q : Int} {s : Shp} (h : abbD b p = .ok (s, q)) : ShpOK s ∧ 0 ≤ p ∧ p < q ∧ q ≤ b.length := by
  unfold abbD at h
  rcases h1 : betR 1 63 4 b p with e | ⟨t, p1⟩
  · rw [h1] at h; cases h
  rw [h1] at h
  simp only at h
  rcases h2 : betR 0 1 4 b p1 with e | ⟨k, p2⟩
  · rw [h2] at h; cases h
  rw [h2] at h
  simp only at h
  rcases h3 : betR 0 12 5 b p2 with e | ⟨n, p3⟩
  · rw [h3] at h; cases h
  rw [h3] at h
  simp only at h
  rcases h4 : attsD b n.toNat [] p3 with e | ⟨l, q'⟩
  · rw [h4] at h; cases h
  rw [h4] at h
  injection h with h
  injection h with h5 h6
  subst h5
  have a1 := betR_ok h1
  have a2 := betR_ok h2
  have a3 := betR_ok h3
  obtain ⟨a4, ⟨r, a5, a6⟩, a7, a8⟩ := attsD_ok h4 (by omega) (by omega)
  simp only [List.nil_append] at a5
  subst a5
  refine ⟨⟨by simp only [List.length_nil] at a4; simp only; omega, fun a ha => ?_⟩, by omega, by omega, by omega⟩
  have := a6 a ha
  omega
/-- shapes of the call's own -/
def SOwn (base : Nat) (w : World) (v : Value) (zs : List (Shp × Value)) : Prop := OwnR shpCells 3 96 base w v zs ∧ ∀ z ∈ zs, OwnR attCells 4 40 base w z.2 z.1.attrs
section
variable {base : Nat} {w w' : World} {v : Value} {zs : List (Shp × Value)}
theorem SOwn.ext (h : SOwn base w v zs) (he : Ext w w') : SOwn base w' v zs := ⟨h.1.ext he, fun z hz => (h.2 z hz).ext he⟩
theorem SOwn.grown (h : SOwn base w v zs) {g : Nat} {C : Array Value} {t : TypeId} {fr : Nat × Nat} (hr : w.heap[g]? = some (.cells C t fr)) (hg : w.grownBy w' (some g)) (h1 : 96 ≠ t) (h2 : 40 ≠ t) : SOwn base w' v zs :=
  ⟨h.1.kept hg (.inr (h.1.ne_blk hr h1)), fun z hz => (h.2 z hz).kept hg (.inr ((h.2 z hz).ne_blk hr h2))⟩
theorem SOwn.kept1 {gr : Nat} (h : SOwn base w v zs) {C : Array Value} {t : TypeId} {fr : Nat × Nat} (hk : Kept w.heap.size [gr] w w') (hr : w.heap[gr]? = some (.cells C t fr)) (h1 : 96 ≠ t) (h2 : 40 ≠ t) : SOwn base w' v zs :=
  ⟨hk.own1 h.1 hr h1, fun z hz => hk.own1 (h.2 z hz) hr h2⟩
theorem SOwn.in_ (h : SOwn base w v zs) : InR shpCells w v zs ∧ ∀ z ∈ zs, InR attCells w z.2 z.1.attrs := ⟨h.1.inR, fun z hz => (h.2 z hz).inR⟩
end
def ShpInv (w : World) (gd gr : Nat) (Aa Ab : Option Addr) (na ca nb cb : Nat) (a : List UInt8) (wr : World) : Prop := ∃ (zs : List (Shp × Value)) (q : Int) (y : Value) (f : Nat), Hid (shpsD a 200 [] 0 = shpsD a f (zs.map Prod.fst) q) ∧ f + zs.length = 200 ∧ (0 ≤ q ∧ q ≤ na) ∧ Hid (∀ z ∈ zs, ShpOK z.1) ∧ wr.heap[gd]? = some (.cells #[.slice Ab nb cb, .int .i64 0, y] 93 (0, 0)) ∧ SOwn w.heap.size wr y zs ∧ wr.heap[gr]? = some (.cells #[.slice Aa na ca, .int .i64 q] 90 (0, 0)) ∧ Ext w wr
def DecEPost (r : Except Int (List Ent)) (w : World) (en : Ending) (w' : World) : Prop :=
  match r with
  | .error e => en = .returned (.tuple #[.slice none 0 0, .int .i64 e]) ∧ Ext w w'
  | .ok l => (∃ y, en = .returned (.tuple #[y, .int .i64 0]) ∧ EOwn w.heap.size w' y l) ∧ Ext w w'
set_option maxHeartbeats 40000000 in
set_option maxRecDepth 100000 in
theorem EDecode_any (xa xb : Value) (a b : List UInt8) (w : World) (hxa : InB w xa a) (hxb : InB w xb b) (hla : a.length ≤ 1000000) (hlb : b.length ≤ 1000000) : Calls Try.prog 20 #[xa, xb] w (DecEPost (decD a b) w) := by
  obtain ⟨Aa, ca, rfl, _, _⟩ := id hxa
  obtain ⟨Ab, cb, rfl, _, _⟩ := id hxb
  obtain ⟨na, hna⟩ : ∃ n, n = a.length := ⟨_, rfl⟩
  obtain ⟨nb, hnb⟩ : ∃ n, n = b.length := ⟨_, rfl⟩
  rw [← hna] at hxa ⊢
  rw [← hnb] at hxb ⊢
  have HNA := Lib.hid hna
  have HNB := Lib.hid hnb
  have HXA := Lib.hid hxa
  have HXB := Lib.hid hxb
  have HLA := Lib.hid hla
  have HLB := Lib.hid hlb
  clear hxa hxb
  go_enter Try.func20, Try.ntmps20
  have hX := Ext.refl w
  by_cases h6 : 60000 < na
  case pos =>
    have d6 : decide ((60000 : Int) < (na : Int)) = true := by simp; omega
    have HP : Hid (decD a b = .error 5) := Lib.hid (by unfold decD; rw [if_pos (.inl (by rw [← hna]; exact h6))])
    clear hna hnb hla hlb
    go_wp2_with fail
    refine bodyPost_ret (by simp [results, Try.results20, go_sem]; rfl) rfl ?_
    rw [HP.out]
    exact ⟨rfl, hX⟩
  have d6 : decide ((60000 : Int) < (na : Int)) = false := by simp; omega
  by_cases h7 : 60000 < nb
  case pos =>
    have d7 : decide ((60000 : Int) < (nb : Int)) = true := by simp; omega
    have HP : Hid (decD a b = .error 5) := Lib.hid (by unfold decD; rw [if_pos (.inr (by rw [← hnb]; exact h7))])
    clear hna hnb hla hlb
    go_wp2_with fail
    refine bodyPost_ret (by simp [results, Try.results20, go_sem]; rfl) rfl ?_
    rw [HP.out]
    exact ⟨rfl, hX⟩
  have d7 : decide ((60000 : Int) < (nb : Int)) = false := by simp; omega
  have HD : Hid (decD a b = match shpsD a 200 [] 0 with
    | .error e => .error e
    | .ok S => match treeD S b (b.length + 1) [] 0 false 0 with
      | .error e => .error e
      | .ok (l, q) => if q < b.length then .error 4 else .ok l) := Lib.hid (by
    conv => lhs; unfold decD
    rw [if_neg (by omega)] <;> rfl)
  clear hna hnb hla hlb h6 h7
  go_upto_region 5 with fail
  obtain ⟨W, hW, hE, hGd, hGr⟩ : ∃ W, W = (w.alloc (.cells #[.slice Ab nb cb, .int .i64 0, .slice none 0 0] 93)).alloc (.cells #[.slice Aa na ca, .int .i64 0] 90) ∧ Ext w W ∧ W.heap[w.heap.size]? = some (.cells #[.slice Ab nb cb, .int .i64 0, .slice none 0 0] 93 (0, 0)) ∧ W.heap[w.heap.size + 1]? = some (.cells #[.slice Aa na ca, .int .i64 0] 90 (0, 0)) := ⟨_, rfl, ((Ext.refl w).alloc _).alloc _, ((Ext.refl _).alloc _).heap (heap_alloc_new w _), by have := heap_alloc_new (w.alloc (.cells #[.slice Ab nb cb, .int .i64 0, .slice none 0 0] 93)) (.cells #[.slice Aa na ca, .int .i64 0] 90); simpa using this⟩
  rw [← hW]
  clear hW hX
  obtain ⟨gd, hgd⟩ : ∃ g, g = w.heap.size := ⟨_, rfl⟩
  obtain ⟨gr, hgr⟩ : ∃ g, g = w.heap.size + 1 := ⟨_, rfl⟩
  have hlow : w.heap.size ≤ gd ∧ w.heap.size ≤ gr ∧ gd ≠ gr := by omega
  rw [← hgr] at hGr ⊢
  rw [← hgd] at hGd ⊢
  clear hgd hgr
  have HL := Lib.hid hlow
  clear hlow
  go_loopw [9] (fun _ wr => ShpInv w gd gr Aa Ab na ca nb cb a wr) (fun _ W => na - (intOf ((W.cell? ⟨gr, 1, none⟩).getD (.int .i64 0))).toNat)
  case atStart => exact ⟨[], 0, _, 200, Lib.hid rfl, by simp, by omega, Lib.hid (by simp), hGd, ⟨OwnR.nil _, by simp⟩, hGr, hE⟩
  case round =>
    clear hGd hGr hE
    obtain ⟨zs, q, y, f, HS, hf, hq, HZ, hGd, hown, hGr, hX⟩ := hrel
    obtain ⟨wo, rfl⟩ : ∃ W : World, W = wr := ⟨_, rfl⟩
    obtain ⟨Ay, cy, hy, _⟩ := id hown.1.inR
    obtain ⟨ny, hny⟩ : ∃ n, n = zs.length := ⟨_, rfl⟩
    rw [← hny] at hy hf
    have HNY := Lib.hid hny
    subst hy
    clear hny
    have hpos0 : wo.cell? ⟨gr, 1, none⟩ = some (.int .i64 q) := blk_at hGr 1 _ rfl
    by_cases hqn : q < (na : Int)
    · have dq : decide (q < (na : Int)) = true := by simpa using hqn
      obtain ⟨r0, r1, r2⟩ := blk3 hGd
      by_cases h200 : ny = 200
      case pos =>
        have e2 : (((ny : Nat) : Int) == 200) = true := by simp [h200]
        have HP : Hid (decD a b = .error 5) := Lib.hid (by
          have e : f = 0 := by omega
          rw [HD.out, HS.out, e]
          unfold shpsD
          rw [if_neg (by have := HNA.out; omega)])
        clear h200 hqn hGd hGr hown
        go_wp2_with fail
        refine bodyPost_ret (by simp [results, Try.results20, go_sem]; rfl) rfl ?_
        rw [HP.out]
        exact ⟨rfl, hX⟩
      have e2 : (((ny : Nat) : Int) == 200) = false := by simp only [beq_eq_false_iff_ne, ne_eq]; omega
      obtain ⟨f, rfl⟩ : ∃ f', f = f' + 1 := ⟨f - 1, by omega⟩
      have HSN : Hid (shpsD a (f + 1) (zs.map Prod.fst) q = match abbD a q with
        | .error e => .error e
        | .ok (s, q) => shpsD a f (zs.map Prod.fst ++ [s]) q) := Lib.hid (by
        conv => lhs; unfold shpsD
        rw [if_neg (by have := HNA.out; omega)] <;> rfl)
      go_wp2_with fail
      have hst : St [gr] wo (fun W => InB W (.slice Aa na ca) a) := fun W hk => HXA.out.ext (hk.ext hX hX.size (fun i hi => by simp only [List.mem_cons, List.not_mem_nil, or_false] at hi; subst hi; exact HL.out.2.1))
      have hab := abb_any gr _ a q wo hst hGr HLA.out
      rcases htr : abbD a q with e | ⟨s, q2⟩
      · rw [htr] at hab
        refine hab.mono ?_
        rintro en w3 ⟨⟨t, k, A2, n2, c2, rfl⟩, he0, hk3⟩
        have hX3 := hk3.ext hX hX.size (fun i hi => by simp only [List.mem_cons, List.not_mem_nil, or_false] at hi; subst hi; exact HL.out.2.1)
        have HP : Hid (decD a b = .error e) := Lib.hid (by
          rw [HD.out, HS.out, HSN.out, htr])
        have e0 : (e != 0) = true := by simpa using he0
        clear htr hab he0 hk3 hst hGd hGr hown hX r0 r1 r2
        obtain ⟨hsto, hG, hXG⟩ := box_new (P := Try.prog) w3 96 #[.int .i64 0, .bool false, .slice none 0 0] #[.int .i64 t, .bool k, .slice A2 n2 c2] ab_size rfl (by simp [Value.oneCell'])
        go_upto_region 9 with first | refine wpList_store_run rfl 96 (.tmp 8) (.tmp 43) rfl _ _ _ rfl rfl hsto ?_
        have hX := hX3.trans hXG
        clear hsto hXG hX3 hG
        generalize (w3.alloc (.cells #[.int .i64 0, .bool false, .slice none 0 0] 96)).setRow w3.heap.size #[.int .i64 t, .bool k, .slice A2 n2 c2] = w4 at *
        try dsimp only [Act.put]
        go_wp2_with fail
        refine bodyPost_ret (by simp [results, Try.results20, go_sem]; rfl) rfl ?_
        rw [HP.out]
        exact ⟨rfl, hX⟩
      rw [htr] at hab
      have hao := abbD_ok htr
      have HSM : Hid (shpsD a 200 [] 0 = shpsD a f (zs.map Prod.fst ++ [s]) q2) := Lib.hid (by rw [HS.out, HSN.out, htr])
      refine hab.mono ?_
      rintro en w3 ⟨y5, rfl, ho5, hrd3, hk3⟩
      have hX3 := hk3.ext hX hX.size (fun i hi => by simp only [List.mem_cons, List.not_mem_nil, or_false] at hi; subst hi; exact HL.out.2.1)
      have hown3 := hown.kept1 hk3 hGr (by decide) (by decide)
      have hGd3 := hk3.heap hGd (heap_lt hGd) (by have := HL.out; simp only [List.mem_cons, List.not_mem_nil, or_false]; omega)
      have ho53 := ho5.low hX.size
      have hq2 : 0 ≤ q2 ∧ q2 ≤ na ∧ q < q2 := by have := HNA.out; omega
      have HSO := Lib.hid hao.1
      clear htr hab hst hk3 hGd hGr hown hX ho5 hao r0 r1 r2 HSN HS
      obtain ⟨A5, c5, hy5, _⟩ := id ho53.inR
      obtain ⟨n5, hn5⟩ : ∃ m, m = s.attrs.length := ⟨_, rfl⟩
      rw [← hn5] at hy5
      subst hy5
      clear hn5
      obtain ⟨hsto, hG, hXG⟩ := box_new (P := Try.prog) w3 96 #[.int .i64 0, .bool false, .slice none 0 0] #[.int .i64 s.tag, .bool s.kids, .slice A5 n5 c5] ab_size rfl (by simp [Value.oneCell'])
      go_upto_region 9 with first | refine wpList_store_run rfl 96 (.tmp 8) (.tmp 43) rfl _ _ _ rfl rfl hsto ?_
      obtain ⟨g8, hg8⟩ : ∃ g, g = w3.heap.size := ⟨_, rfl⟩
      have hne8 : ∀ i, (Value.slice Ay ny cy).ownBlock = some i → i ≠ g8 := fun i hi => by have := hown3.1.lt i hi; omega
      rw [← hg8] at hG hXG ⊢
      generalize (w3.alloc (.cells #[.int .i64 0, .bool false, .slice none 0 0] 96)).setRow g8 #[.int .i64 s.tag, .bool s.kids, .slice A5 n5 c5] = w4 at *
      try dsimp only [Act.put]
      have hX4 := hX3.trans hXG
      have hrd4 := hXG.heap hrd3
      have hGd4 := hXG.heap hGd3
      have hown4 := hown3.ext hXG
      have ho54 := ho53.ext hXG
      clear hsto hXG hX3 hrd3 hGd3 hown3 ho53 hg8
      go_upto_region 11 with fail
      have hone : ∀ z ∈ [(s, (Value.slice A5 n5 c5))], ∀ u ∈ shpCells z, u.oneCell' = true := fun z hz u hu => by
        simp only [List.mem_singleton] at hz
        subst hz
        simp only [shpCells, List.mem_cons, List.not_mem_nil, or_false] at hu
        rcases hu with rfl | rfl | rfl <;> rfl
      refine wp_region_Z #[true, true, true, true, true, true, true, true, false, false, false] (Value.slice Ay ny cy).ownBlock 8 3 (by kernel_rfl) rfl ?_
      refine wpZ_v 0 (.pointer (some ⟨gd, 0, none⟩)) rfl rfl (by kernel_rfl) (by kernel_rfl) (by kernel_rfl) (fun _ _ _ _ h => h) (by kernel_rfl) rfl (by rfl) (fun W' hW => by
        skip
        go_simp) ?_
      simp only [List.setIfInBounds_toArray, List.set_cons_zero, List.set_cons_succ]
      refine wpZ_v 1 (.pointer (some ⟨gd, 0, none⟩)) rfl rfl (by kernel_rfl) (by kernel_rfl) (by kernel_rfl) (fun _ _ _ _ h => h) (by kernel_rfl) rfl (by rfl) (fun W' hW => by
        skip
        go_simp) ?_
      simp only [List.setIfInBounds_toArray, List.set_cons_zero, List.set_cons_succ]
      refine wpZ_v 2 (.pointer (some ⟨gd, 0, none⟩)) rfl rfl (by kernel_rfl) (by kernel_rfl) (by kernel_rfl) (fun _ _ _ _ h => h) (by kernel_rfl) rfl (by rfl) (fun W' hW => by
        skip
        go_simp) ?_
      simp only [List.setIfInBounds_toArray, List.set_cons_zero, List.set_cons_succ]
      refine wpZ_v 3 (.pointer (some ⟨gd, 2, none⟩)) rfl rfl (by kernel_rfl) (by kernel_rfl) (by kernel_rfl) (fun _ _ _ _ h => h) (by kernel_rfl) rfl (by rfl) (fun W' hW => by
        skip
        go_simp) ?_
      simp only [List.setIfInBounds_toArray, List.set_cons_zero, List.set_cons_succ]
      refine wpZ_v 4 (.slice Ay ny cy) rfl rfl (by kernel_rfl) (by kernel_rfl) (by kernel_rfl) (fun _ _ _ _ h => h) (by kernel_rfl) rfl (by rfl) (fun W' hW => by
        have hgw := gtrans (((Ext.refl w4).drew).grownBy _) hW
        have z := blk_at (blk_grown hGd4 hgw (hown4.1.ne_blk hGd4 (by decide)).symm) 2 _ rfl
        go_simp) ?_
      simp only [List.setIfInBounds_toArray, List.set_cons_zero, List.set_cons_succ]
      refine wpZ_v 5 (.agg #[.int .i64 s.tag, .bool s.kids, .slice A5 n5 c5]) rfl rfl (by kernel_rfl) (by kernel_rfl) (by kernel_rfl) (fun _ _ _ _ h => h) (by kernel_rfl) rfl (by rfl) (fun W' hW => exec_load19 96 (.tmp 8) rfl _ _ rfl (run_loadAt_blk (P := Try.prog) W' g8 96 96 _ (0, 0) _ (blk_grown hG (gtrans (((Ext.refl w4).drew).grownBy _) hW) (fun e => hne8 g8 e.symm rfl)) Try.underlying96 rfl ab_size)) ?_
      simp only [List.setIfInBounds_toArray, List.set_cons_zero, List.set_cons_succ]
      refine wpZ_m 6 rfl rfl (by kernel_rfl) rfl (by rfl) fun W2 hW2 => ?_
      have hA := (Ext.refl W2).alloc (.cells #[.int .i64 s.tag, .bool s.kids, .slice A5 n5 c5] 96)
      refine ⟨.slice (some ⟨W2.heap.size, 0, none⟩) 1 1, W2.alloc (.cells #[.int .i64 s.tag, .bool s.kids, .slice A5 n5 c5] 96), by go_simp, hA.grownBy _, ?_⟩
      simp only [List.setIfInBounds_toArray, List.set_cons_zero, List.set_cons_succ]
      have hin : InR shpCells (W2.alloc (.cells #[.int .i64 s.tag, .bool s.kids, .slice A5 n5 c5] 96)) (.slice (some ⟨W2.heap.size, 0, none⟩) 1 1) [(s, .slice A5 n5 c5)] := (OwnR_one (f := shpCells) W2 (s, .slice A5 n5 c5) rfl 96).inR
      have hX3 := (((Ext.refl w4).drew).trans hW2).trans hA
      generalize W2.alloc (.cells #[.int .i64 s.tag, .bool s.kids, .slice A5 n5 c5] 96) = W3 at *
      generalize W2.heap.size = gn at *
      refine wpZ_appendR elem_ab 7 (.tmp 52) (.tmp 54) w.heap.size (.slice Ay ny cy) zs _ [(s, .slice A5 n5 c5)] rfl rfl (by kernel_rfl) rfl (by rfl) rfl rfl rfl (hown4.1.ext hX3) hin (fun _ _ => rfl) hone (by have := HNY.out; simp only [List.length_cons, List.length_nil]; omega) (by omega) (Nat.le_trans hX4.size hX3.size) fun v4 W4 W5 hW4 ho4 hg4 => ?_
      simp only [List.setIfInBounds_toArray, List.set_cons_zero, List.set_cons_succ]
      have hX5 := hX3.trans hW4
      obtain ⟨Av, cv, hv4, _, _⟩ := ho4.inR
      obtain ⟨nv, hnv⟩ : ∃ n, n = (zs ++ [((s, .slice A5 n5 c5) : Shp × Value)]).length := ⟨_, rfl⟩
      rw [← hnv] at hv4
      subst hv4
      clear hnv
      refine wpZ_end rfl fun W6 hW6 => tail_seq 8 rfl (by kernel_rfl) ?_
      simp only [List.drop_succ_cons, List.drop_zero]
      have hGd6 := hW6.heap (blk_grown (hX5.heap hGd4) hg4.grown (hown4.1.ne_blk hGd4 (by decide)).symm)
      have hGr6 := hW6.heap (blk_grown (hX5.heap hrd4) hg4.grown (hown4.1.ne_blk hrd4 (by decide)).symm)
      have hown6 : SOwn w.heap.size W6 (.slice Av nv cv) (zs ++ [(s, .slice A5 n5 c5)]) := by
        refine ⟨ho4.ext hW6, fun z hz => ?_⟩
        rcases List.mem_append.1 hz with hz | hz
        · exact (((hown4.2 z hz).ext hX5).kept hg4.grown (row_ne (hown4.2 z hz) hown4.1 (by decide))).ext hW6
        · simp only [List.mem_singleton] at hz
          subst hz
          exact ((ho54.ext hX5).kept hg4.grown (row_ne ho54 hown4.1 (by decide))).ext hW6
      have hX6 : Ext w W6 := ((hX4.trans hX5).grown hg4.grown hown4.1.ge).trans hW6
      have hGd7 := blk_set hGd6 2 (.slice Av nv cv)
      simp only [List.setIfInBounds_toArray, List.set_cons_succ, List.set_cons_zero] at hGd7
      have s6 := gset W6 ⟨gd, 2, none⟩ (.slice Av nv cv)
      have hGr7 := blk_grown hGr6 s6 (fun e => by have e1 : gr = gd := (by injection e); have := HL.out; omega)
      have hown7 := hown6.grown hGd6 s6 (by decide) (by decide)
      have hX7 := hX6.grown s6 (fun k e => by cases e; exact HL.out.1)
      obtain ⟨r0, r1, r2⟩ := blk3 hGd6
      have f2 := blk_free hGd6 2
      have hlt6 := heap_lt hGd6
      clear hX3 hW2 hA hin hW4 ho4 hg4 hX5 hW6 hGr6 hown6 hX6 s6 hGd6 hone hown4 ho54 hrd4 hGd4 hG hX4 hne8
      go_upto_region 5 with fail
      refine NoPanic.normal ?_
      clear r0 r1 r2 f2 hlt6
      generalize W6.setCell ⟨gd, 2, none⟩ (.slice Av nv cv) = w7 at *
      have HSX : Hid (shpsD a 200 [] 0 = shpsD a f ((zs ++ [((s, .slice A5 n5 c5) : Shp × Value)]).map Prod.fst) q2) := Lib.hid (by rw [HSM.out, List.map_append]; rfl)
      have HZX : Hid (∀ z ∈ zs ++ [((s, .slice A5 n5 c5) : Shp × Value)], ShpOK z.1) := Lib.hid (fun z hz => by
        rcases List.mem_append.1 hz with hz | hz
        · exact HZ.out z hz
        · simp only [List.mem_singleton] at hz
          subst hz
          exact HSO.out)
      have hfx : f + (zs ++ [((s, .slice A5 n5 c5) : Shp × Value)]).length = 200 := by
        have := HNY.out
        rw [List.length_append]
        simp only [List.length_cons, List.length_nil]
        omega
      have hposN : w7.cell? ⟨gr, 1, none⟩ = some (.int .i64 q2) := blk_at hGr7 1 _ rfl
      clear HSM HSO HZ
      go_wp2_with fail
      go_roundw
      case rel => exact ⟨zs ++ [(s, .slice A5 n5 c5)], q2, _, f, HSX, hfx, by omega, HZX, hGd7, hown7, hGr7, hX7⟩
      case measure => rw [hpos0, hposN]; simp only [Option.getD_some, intOf]; omega
    · have dq : decide (q < (na : Int)) = false := by simpa using hqn
      have HS2 : Hid (shpsD a 200 [] 0 = .ok (zs.map Prod.fst)) := Lib.hid (by
        rw [HS.out]
        unfold shpsD
        rw [if_pos (by have := HNA.out; omega)])
      have HD2 : Hid (decD a b = match treeD (zs.map Prod.fst) b (b.length + 1) [] 0 false 0 with
        | .error e => .error e
        | .ok (l, q) => if q < b.length then .error 4 else .ok l) := Lib.hid (by rw [HD.out, HS2.out])
      have hst : St [gd] wo (fun W => InB W (.slice Ab nb cb) b) := fun W hk => HXB.out.ext (hk.ext hX hX.size (fun i hi => by simp only [List.mem_cons, List.not_mem_nil, or_false] at hi; subst hi; exact HL.out.1))
      have hsS : St [gd] wo (fun W => InR shpCells W (.slice Ay ny cy) zs ∧ ∀ z ∈ zs, InR attCells W z.2 z.1.attrs) := fun W hk => (hown.kept1 hk hGd (by decide) (by decide)).in_
      have htb := dtree_any gd _ _ zs (zs.map Prod.fst) b wo hst hsS rfl (fun t ht => by
        obtain ⟨z, hz, rfl⟩ := List.mem_map.1 ht
        exact HZ.out z hz) hGd HLB.out (by rw [List.length_map]; have := HNY.out; omega)
      obtain ⟨r0, r1⟩ : wo.cell? ⟨gr, 0, none⟩ = some (.slice Aa na ca) ∧ wo.cell? ⟨gr, 1, none⟩ = some (.int .i64 q) := ⟨blk_at hGr 0 _ rfl, blk_at hGr 1 _ rfl⟩
      clear hGd hown hGr hsS hst hpos0 HS HS2 HD
      go_wp2_with fail
      clear r0 r1
      rcases htr : treeD (zs.map Prod.fst) b (b.length + 1) [] 0 false 0 with e | ⟨l, q2⟩
      · rw [htr] at htb
        refine htb.mono ?_
        rintro en w5 ⟨rfl, he0, hk5⟩
        have hX5 := hk5.ext hX hX.size (fun i hi => by simp only [List.mem_cons, List.not_mem_nil, or_false] at hi; subst hi; exact HL.out.1)
        have HP : Hid (decD a b = .error e) := Lib.hid (by rw [HD2.out, htr])
        have e0 : (e != 0) = true := by simpa using he0
        clear htr htb he0 hk5 hX
        have hX := hX5
        go_wp2_with fail
        refine bodyPost_ret (by simp [results, Try.results20, go_sem]; rfl) rfl ?_
        rw [HP.out]
        exact ⟨rfl, hX⟩
      rw [htr] at htb
      refine htb.mono ?_
      rintro en w5 ⟨y5, rfl, hT⟩
      have hX5 := hT.kept.ext hX hX.size (fun i hi => by simp only [List.mem_cons, List.not_mem_nil, or_false] at hi; subst hi; exact HL.out.1)
      have hown5 := hT.own.low hX.size
      obtain ⟨r0, r1, r2⟩ := blk3 hT.rd
      have HD3 : Hid (decD a b = if q2 < b.length then .error 4 else .ok l) := Lib.hid (by rw [HD2.out, htr])
      obtain ⟨A5, c5, hy5⟩ := hown5.in_.form
      obtain ⟨n5, hn5⟩ : ∃ n, n = l.length := ⟨_, rfl⟩
      rw [← hn5] at hy5
      subst hy5
      clear htr htb hT hX HD2 hn5
      have hX := hX5
      by_cases hq2 : q2 < (nb : Int)
      case pos =>
        have d2 : decide (q2 < (nb : Int)) = true := by simpa using hq2
        have HP : Hid (decD a b = .error 4) := Lib.hid (by rw [HD3.out, if_pos (by have := HNB.out; omega)])
        clear hq2 hown5
        go_wp2_with fail
        refine bodyPost_ret (by simp [results, Try.results20, go_sem]; rfl) rfl ?_
        rw [HP.out]
        exact ⟨rfl, hX⟩
      have d2 : decide (q2 < (nb : Int)) = false := by simpa using hq2
      have HP : Hid (decD a b = .ok l) := Lib.hid (by rw [HD3.out, if_neg (by have := HNB.out; omega)])
      clear hq2
      go_wp2_with fail
      refine bodyPost_ret (by simp [results, Try.results20, go_sem]; rfl) rfl ?_
      rw [HP.out]
      exact ⟨⟨_, rfl, hown5⟩, hX⟩
end Go.Proofs.Ytopanbcodfkedaa
