/- The walk of the specification's Encode. -/
import Derived.Test.YtopanbcodfkedaaInfU
import Derived.Test.YtopanbcodfkedaaInfW
namespace Go.Proofs.Ytopanbcodfkedaa
open Go.RowKit
set_option linter.unusedVariables false
set_option linter.unusedSimpArgs false

theorem flatB_len : ∀ {zs : List (RSh × Value)}, (∀ z ∈ zs, ShOf z.1) → (zs.flatMap (fun z => shB z.1)).length ≤ 270 * zs.length
  | [], _ => by simp
  | z :: r, h => by
    have h1 := (h z (by simp)).bytes
    have h2 := flatB_len (zs := r) (fun x hx => h x (by simp [hx]))
    rw [List.flatMap_cons, List.length_append, List.length_cons]
    omega
theorem flatB_flat (zs : List (RSh × Value)) : zs.flatMap (fun z => shB z.1) = (zs.map (fun z => shB z.1)).flatten := by
  rw [List.flatMap_def]
set_option maxHeartbeats 40000000 in
set_option maxRecDepth 100000 in
theorem refEncode_any (l : List Ent) (v : Value) (w : World) (hv : Ents w v l) (hI : ∀ e ∈ l, e.I) (hL : l.length ≤ 9223372036854775807) : Calls Try.prog 10 #[v] w (EncPost2 (EncE l) w) := by
  obtain ⟨A, c, rfl⟩ := hv.form
  obtain ⟨n, hn⟩ : ∃ n, n = l.length := ⟨_, rfl⟩
  rw [← hn] at hv ⊢
  have HN := Lib.hid hn
  have HV := Lib.hid hv
  have HI := Lib.hid hI
  clear hn hv hI
  go_enter Try.func10, Try.ntmps10
  go_wp2_with fail
  refine (refRight_any l _ w HV.out HI.out hL).mono ?_
  rintro en w1 ⟨r, rfl, hr, hx1⟩
  cases r with
  | false =>
    have HX : Hid (EncE l = ([], [])) := Lib.hid (by unfold EncE; rw [if_neg (fun h => by have := hr.2 h; cases this)])
    clear hr
    go_wp2_with fail
    refine bodyPost_ret (by simp [results, Try.results10, go_sem]; rfl) rfl ?_
    exact ⟨_, _, rfl, by rw [HX.out]; exact OwnV.nil _, by rw [HX.out]; exact OwnV.nil _, hx1⟩
  | true =>
    have HR := Lib.hid (hr.1 rfl)
    clear hr
    have hn4 : n ≤ 4000 := by have h1 := HR.out.1; have := HN.out; omega
    have HDP : Hid (∀ e ∈ l, 0 ≤ e.depth ∧ e.depth ≤ 32) := Lib.hid (fun e he => by
      obtain ⟨i, hi, rfl⟩ := List.getElem_of_mem he
      exact okEnt_depth (HR.out.2 i hi))
    have hE0 : EncR w [] (.slice none 0 0) (.slice none 0 0) [] (.slice none 0 0) [] w1 := ⟨OwnR.nil _, by simp, OwnV.nil _, OwnV.nil _, .inl rfl, hx1⟩
    clear hx1
    go_wp2_with fail
    go_loopw [4, 5, 6, 7, 21] (fun sv av ev d i wr => ∃ (j : Nat) (zs : List (RSh × Value)) (ab en : List UInt8) (dd : Int), j ≤ n ∧ i = .int .i64 (j : Int) ∧ d = .int .i64 dd ∧ (0 ≤ dd ∧ dd ≤ 32) ∧ (j = 0 → dd = 0) ∧ Hid (encL l ([], []) = encL (l.drop j) (zs.map (fun z => shB z.1), en ++ List.replicate (dd - headD (l.drop j)).toNat 0)) ∧ Hid (∀ z ∈ zs, ShOf z.1) ∧ zs.length ≤ j ∧ Hid (ab = zs.flatMap (fun z => shB z.1)) ∧ ab.length ≤ 1200000 ∧ en.length ≤ 650 * j ∧ EncR w zs sv av ab ev en wr) (fun _ _ _ _ i _ => n - (intOf i).toNat)
    case atStart => exact ⟨0, [], [], [], 0, by omega, rfl, rfl, by omega, fun _ => rfl, Lib.hid (by
      rw [List.drop_zero]
      have h0 : headD l = 0 := by
        cases l with
        | nil => rfl
        | cons e r => exact (HR.out.2 0 (by simp)).1
      rw [h0]
      rfl), Lib.hid (by simp), by simp, Lib.hid rfl, by simp, by simp, hE0⟩
    case round =>
      clear hE0
      obtain ⟨j, zs, ab, en, dd, hj, rfl, rfl, hdd, hd0, HD, HZ, hzl, HAB, habl, hel, hE⟩ := hrel
      obtain ⟨wo, rfl⟩ : ∃ wo : World, wo = wr := ⟨_, rfl⟩
      obtain ⟨sv, rfl⟩ : ∃ x : Value, x = u4 := ⟨_, rfl⟩
      obtain ⟨av, rfl⟩ : ∃ x : Value, x = u5 := ⟨_, rfl⟩
      by_cases hlt : j < n
      · have hij : (j : Int) < (n : Int) := by omega
        have hlt' : j < l.length := by rw [← HN.out]; exact hlt
        obtain ⟨bb, oo, y, hAe, hra0, hat1⟩ := HV.out.at_ hlt'
        have hra : wo.rangeAt bb (oo + j * 3) (entCells (l[j], y)) := fun i u hu => hE.ext.cell (hra0 i u hu)
        clear hra0
        subst hAe
        obtain ⟨xd, hxd⟩ : ∃ d, d = headD (l.drop j) := ⟨_, rfl⟩
        have hxe : xd = l[j].depth := by rw [hxd, headD_drop hlt']
        obtain ⟨nd, hnd⟩ : ∃ d, d = headD (l.drop (j + 1)) := ⟨_, rfl⟩
        have hxdr : 0 ≤ xd ∧ xd ≤ 32 := by rw [hxe]; exact HDP.out _ (List.getElem_mem hlt')
        have hx00 : j = 0 → xd = 0 := fun h => by
          have := (HR.out.2 j hlt').1
          rw [hxe]
          subst h
          exact this
        obtain ⟨T, hT⟩ : ∃ T, T = en ++ List.replicate (dd - xd).toNat 0 := ⟨_, rfl⟩
        have hTl : T.length ≤ 650 * j + 32 := by rw [hT, List.length_append, List.length_replicate]; omega
        have HT : Hid (en ++ List.replicate (dd - xd).toNat 0 = T) := Lib.hid hT.symm
        obtain ⟨kb, hkb⟩ : ∃ k, k = decide (l[j].depth < headD (l.drop (j + 1))) := ⟨_, rfl⟩
        have HD2 : Hid (encL l ([], []) = encL (l.drop (j + 1)) (addS (zs.map (fun z => shB z.1)) (shapeB l[j] kb), T ++ entB l[j] ((addS (zs.map (fun z => shB z.1)) (shapeB l[j] kb)).idxOf (shapeB l[j] kb) + 1) nd)) := Lib.hid (by
          rw [HD.out, ← hxd, ← hT, List.drop_eq_getElem_cons hlt', hnd, hkb]
          rfl)
        have hoe := HR.out.2 _ hlt'
        have HSO : Hid (ShOf (rshOf l[j] kb)) := Lib.hid ⟨l[j], kb, rfl, hoe.2.2, hoe.2.1⟩
        have HOA := Lib.hid hoe.2.2
        have heI := HI.out _ (List.getElem_mem hlt')
        have HSC : Hid (∀ W, Ext wo W → Calls Try.prog 26 #[.slice (some ⟨bb, oo, none⟩) n c, .int .i64 (j : Int)] W (ShapePst (rshOf l[j] kb) W)) := Lib.hid (fun W hW => by
          rw [hkb]
          exact refShapeOf_any l _ j hlt' W ((HV.out.ext hE.ext).ext hW) HOA.out HDP.out (by rw [← HN.out]; exact hn4))
        clear HD hoe hT hxd hkb
        generalize l[j] = e at *
        obtain ⟨A2, c2, rfl, _⟩ := id hat1
        obtain ⟨n2, hn2⟩ : ∃ n, n = e.attrs.length := ⟨_, rfl⟩
        have h12 : n2 ≤ 12 := by rw [hn2]; exact HOA.out.1
        have hld := ent_load hra
        rw [← hn2] at hld hat1
        have HN2 := Lib.hid hn2
        have HAT := Lib.hid hat1
        clear hn2 hat1
        rw [← hxe] at hld
        have HXE := Lib.hid hxe
        clear hxe
        obtain ⟨hst, hG, hXG⟩ := box_new (P := Try.prog) wo 26 #[.int .i64 0, .int .i64 0, .slice none 0 0] #[.int .i64 xd, .int .i64 e.tag, .slice A2 n2 c2] en_size rfl (by simp [Value.oneCell'])
        go_upto_region 9 with first | refine wpList_load_run rfl 26 (.tmp 24) rfl _ _ rfl hld ?_ | refine wpList_store_run rfl 26 (.tmp 9) (.tmp 25) rfl _ _ _ rfl rfl hst ?_
        obtain ⟨g9, hg9⟩ : ∃ g, g = wo.heap.size := ⟨_, rfl⟩
        have hl9 : w.heap.size ≤ g9 := by have := hE.size; omega
        rw [← hg9] at hG hXG ⊢
        generalize (wo.alloc (.cells #[.int .i64 0, .int .i64 0, .slice none 0 0] 26)).setRow g9 #[.int .i64 xd, .int .i64 e.tag, .slice A2 n2 c2] = wg at *
        try dsimp only [Act.put]
        have HSG := HSC.out wg hXG
        replace hE := hE.aside hXG
        clear hst hld hra hXG hg9 HSC
        go_wp2_with fail
        refine HSG.mono ?_
        rintro en0 w2 ⟨y, rfl, hy, hx2⟩
        clear HSG
        obtain ⟨s, hs⟩ : ∃ s, s = rshOf e kb := ⟨_, rfl⟩
        have hsb : shapeB e kb = shB s := by rw [hs, shB_of]
        rw [← hs] at HSO hy ⊢
        rw [hsb] at HD2
        clear hs hsb
        have hG2 := hx2.heap hG
        have hy2 := hy.low hE.size
        replace hE := hE.aside hx2
        obtain ⟨AY, cY, hyv, _⟩ := id hy.inV
        obtain ⟨ny, hny⟩ : ∃ n, n = s.names.length := ⟨_, rfl⟩
        have hnyl : ny ≤ 24 := by rw [hny]; exact HSO.out.len
        rw [← hny] at hyv
        subst hyv
        have HNY := Lib.hid hny
        clear hy hny hx2 hG
        obtain ⟨hst, hH, hXH⟩ := box_new (P := Try.prog) w2 69 #[.int .i64 0, .int .i64 0, .slice none 0 0] #[.int .i64 s.tag, .int .i64 s.kids, .slice AY ny cY] sh_size rfl (by simp [Value.oneCell'])
        go_wp2_with first | refine wpList_store_run rfl 69 (.tmp 10) (.tmp 28) rfl _ _ _ rfl rfl hst ?_
        obtain ⟨g10, hg10⟩ : ∃ g, g = w2.heap.size := ⟨_, rfl⟩
        have hS10 : ∀ k, sv.ownBlock = some k → k ≠ g10 := fun k hk => by have := hE.sh.lt k hk; omega
        rw [← hg10] at hH hXH ⊢
        generalize (w2.alloc (.cells #[.int .i64 0, .int .i64 0, .slice none 0 0] 69)).setRow g10 #[.int .i64 s.tag, .int .i64 s.kids, .slice AY ny cY] = w3 at *
        try dsimp only [Act.put]
        have hG3 := hXH.heap hG2
        have hy3 := hy2.ext hXH
        replace hE := hE.aside hXH
        clear hst hXH hg10 hG2 hy2
        have hB : XB w g9 g10 #[.int .i64 xd, .int .i64 e.tag, .slice A2 n2 c2] #[.int .i64 s.tag, .int .i64 s.kids, .slice AY ny cY] (.slice AY ny cY) s.names w3 := ⟨hG3, hH, hy3⟩
        have hSne : ∀ k, sv.ownBlock = some k → k ≠ g10 := hS10
        clear hG3 hH hy3 hS10
        go_loopw [6, 7] (fun ev d wr => ∃ (en : List UInt8) (dd : Int), d = .int .i64 dd ∧ (-1 ≤ dd ∧ dd ≤ 32) ∧ (j = 0 → dd = xd) ∧ Hid (en ++ List.replicate (dd - xd).toNat 0 = T) ∧ en.length ≤ 650 * j + 32 ∧ EncR w zs sv av ab ev en wr ∧ XB w g9 g10 #[.int .i64 xd, .int .i64 e.tag, .slice A2 n2 c2] #[.int .i64 s.tag, .int .i64 s.kids, .slice AY ny cY] (.slice AY ny cY) s.names wr) (fun _ d _ => (intOf d + 2).toNat)
        case atStart => exact ⟨en, dd, rfl, by omega, fun h => by rw [hd0 h, hx00 h], HT, by omega, hE, hB⟩
        case round =>
          clear hE hB HT hd0 hdd hel
          obtain ⟨en, dd, rfl, hdd, hd0, HT, hel, hE, hB⟩ := hrel
          obtain ⟨wz, rfl⟩ : ∃ W : World, W = wr := ⟨_, rfl⟩
          obtain ⟨r0, r1, r2⟩ := blk3 hB.e
          go_upto_region 10 with fail
          go_cut [36] (fun sl wx => ∃ d : Bool, sl = .bool d ∧ (d = true ↔ 0 < j ∧ xd ≤ dd) ∧ wx = wz)
          case first =>
            by_cases h1 : 0 < j
            · have d1 : decide (0 < j) = true := by simpa using h1
              obtain ⟨db, hdb⟩ : ∃ d, d = decide (xd ≤ dd) := ⟨_, rfl⟩
              have hdb' := hdb.symm
              have HQ : Hid (db = true ↔ 0 < j ∧ xd ≤ dd) := Lib.hid (by rw [hdb]; simp [h1])
              clear h1 hdb
              go_wp2_with fail
              go_meet
              exact ⟨db, rfl, HQ.out, rfl⟩
            · have d1 : decide (0 < j) = false := by simpa using h1
              have HQ : Hid (false = true ↔ 0 < j ∧ xd ≤ dd) := Lib.hid (by simp [h1])
              clear h1
              go_wp2_with fail
              go_meet
              exact ⟨false, rfl, HQ.out, rfl⟩
          obtain ⟨d, rfl, hd, hwe⟩ := hcut
          subst hwe
          obtain ⟨wz, rfl⟩ : ∃ W : World, W = wc := ⟨_, rfl⟩
          cases d with
          | true =>
            have hgo := hd.1 rfl
            have hwd : IntKind.i64.wrap (dd - 1) = dd - 1 := by rw [IntKind.wrap_i64]; omega
            clear hd
            by_cases hz : xd < dd
            · have d3 : decide (xd < dd) = true := by simpa using hz
              have HTN : Hid ((en ++ [0]) ++ List.replicate (dd - 1 - xd).toNat 0 = T) := Lib.hid (by
                have e : (dd - xd).toNat = (dd - 1 - xd).toNat + 1 := by omega
                have := HT.out
                rw [e, List.replicate_succ] at this
                rw [List.append_assoc]
                exact this)
              have hlN : (en ++ [0]).length ≤ 650 * j + 32 := by
                have := congrArg List.length HTN.out
                rw [List.length_append] at this
                omega
              go_upto_region 13 with fail
              clear r0 r1 r2
              have hA0 := (Ext.refl wz).alloc (.cells #[bv 0] 5)
              have hin0 : InV bv (wz.alloc (.cells #[bv 0] 5)) (.slice (some ⟨wz.heap.size, 0, none⟩) 1 1) [0] := (OwnV_new (f := bv) wz 0 5).inV
              have hE0 := hE.aside hA0
              have hent0 := hE0.ent
              have hsz0 := hE0.size
              go_wp2_with (at_builtin; go_must (refine wpList_appendV elem_u8 (fun _ => rfl) rfl (.tmp 43) (.tmp 44) rfl w.heap.size _ en rfl hent0 _ [0] rfl hin0 (by simp only [List.length_cons, List.length_nil]; omega) (by omega) hsz0 (Hold.out ?_)))
              refine Hold.mk fun v9 w9 ho9 hg9 => ?_
              have hE9 := hE0.pushE ho9 hg9
              have hB9 := (hB.ext hA0).push hent0 hg9
              clear hA0 hin0 hE0 hent0 hsz0 ho9 hg9
              go_wp2_with fail
              go_roundw
              case rel => exact ⟨_, dd - 1, rfl, by omega, fun h => by omega, HTN, hlN, hE9, hB9⟩
              case measure => simp [intOf]; omega
            · have d3 : decide (xd < dd) = false := by simpa using hz
              have HTN : Hid (en ++ List.replicate (dd - 1 - xd).toNat 0 = T) := Lib.hid (by
                rw [show (dd - 1 - xd).toNat = (dd - xd).toNat by omega]
                exact HT.out)
              go_wp2_with fail
              go_roundw
              case rel => exact ⟨en, dd - 1, rfl, by omega, fun h => by omega, HTN, hel, hE, hB⟩
              case measure => simp [intOf]; omega
          | false =>
            have HDN : Hid (0 < j → ¬ xd ≤ dd) := Lib.hid (fun h h2 => by have := hd.2 ⟨h, h2⟩; cases this)
            clear hd
            have heT : en = T := by
              have h0 : (dd - xd).toNat = 0 := by
                by_cases h : j = 0
                · rw [hd0 h]; omega
                · have := HDN.out (by omega); omega
              have := HT.out
              rw [h0] at this
              simpa using this
            subst heT
            clear HT
            obtain ⟨AS, cS, hsv, _⟩ := id hE.sh.inR
            obtain ⟨zl, hzl'⟩ : ∃ z, z = zs.length := ⟨_, rfl⟩
            rw [← hzl'] at hsv hzl
            subst hsv
            have HZL := Lib.hid hzl'
            have HSN : Hid (∀ k, (Value.slice AS zl cS).ownBlock = some k → k ≠ g10) := Lib.hid hSne
            have hx00' := Lib.hid hx00
            clear hzl' hSne hx00 hd0 hdd HDN
            go_wp2_with fail
            clear r0 r1 r2
            go_loopw [11] (fun i wr => ∃ (m : Nat), m ≤ zl ∧ i = .int .i64 (m : Int) ∧ Hid (∀ i (h : i < zs.length), i < m → zs[i].1 ≠ s) ∧ EncR w zs (.slice AS zl cS) av ab u6 en wr ∧ XB w g9 g10 #[.int .i64 xd, .int .i64 e.tag, .slice A2 n2 c2] #[.int .i64 s.tag, .int .i64 s.kids, .slice AY ny cY] (.slice AY ny cY) s.names wr) (fun i _ => zl + 1 - (intOf i).toNat)
            case atStart => exact ⟨0, by omega, rfl, Lib.hid (fun i h h2 => absurd h2 (by omega)), hE, hB⟩
            case round =>
              clear hE hB
              obtain ⟨m, hm, rfl, HNO, hE, hB⟩ := hrel
              obtain ⟨wy, rfl⟩ : ∃ W : World, W = wr := ⟨_, rfl⟩
              go_upto_region 16 with fail
              go_cut [60] (fun sl wx => ∃ d : Bool, sl = .bool d ∧ (d = true ↔ ∃ h : m < zs.length, zs[m].1 ≠ s) ∧ Ext wy wx)
              case first =>
                by_cases hml : m < zl
                case neg =>
                  have d1 : decide (m < zl) = false := by simpa using hml
                  have HQ : Hid (false = true ↔ ∃ h : m < zs.length, zs[m].1 ≠ s) := Lib.hid ⟨fun h => (by cases h), fun h => absurd h.1 (by have := HZL.out; omega)⟩
                  clear hml
                  refine wp_region_still_tail 10 (by kernel_rfl) (by kernel_rfl) ?_
                  simp only [List.append_eq, List.cons_append, List.nil_append, List.take_succ_cons, List.take_zero, List.drop_succ_cons, List.drop_zero]
                  refine WStill.out ?_
                  iterate 10
                    refine wstill_step (fun K hK => ?_)
                    go_simp
                    refine hK _ ?_
                    clear hK K
                  refine wstill_nil ?_
                  change wpList _ _ _ _ _ wy.drew
                  have hXd := (Ext.refl wy).drew
                  go_wp2_with fail
                  go_meet
                  exact ⟨false, rfl, HQ.out, hXd⟩
                have hml' : m < zs.length := by rw [← HZL.out]; exact hml
                have d1 : decide (m < zl) = true := by simpa using hml
                have him : (m : Int) < (zl : Int) := by omega
                obtain ⟨b3, o3, hAe, hrz⟩ := hE.sh.inR.at_ (k := 3) (fun z hz => rfl) (by omega) hml'
                subst hAe
                have hnz := hE.nm _ (List.getElem_mem hml')
                have hSZ := HZ.out _ (List.getElem_mem hml')
                have HQ : Hid ((∃ h : m < zs.length, zs[m].1 ≠ s) ↔ zs[m].1 ≠ s) := Lib.hid ⟨fun h => h.2, fun h => ⟨hml', h⟩⟩
                clear hml
                generalize zs[m] = z at *
                obtain ⟨z, zv⟩ := z
                obtain ⟨AZ, cZ, hzv, _⟩ := id hnz.inV
                simp only at hzv hnz hSZ
                subst hzv
                have hzn := hSZ.len
                obtain ⟨nz, hnz'⟩ : ∃ n, n = z.names.length := ⟨_, rfl⟩
                rw [← hnz'] at hrz hnz hzn
                have HNZ := Lib.hid hnz'
                clear hnz'
                have k0 : wy.cell? ⟨b3, o3 + m * 3, none⟩ = some (.int .i64 z.tag) := by simpa using hrz 0 _ rfl
                have k1 : wy.cell? ⟨b3, o3 + m * 3 + 1, none⟩ = some (.int .i64 z.kids) := by simpa using hrz 1 _ rfl
                have k2 : wy.cell? ⟨b3, o3 + m * 3 + 2, none⟩ = some (.slice AZ nz cZ) := by simpa using hrz 2 _ rfl
                obtain ⟨r0, r1, r2⟩ := blk3 hB.h
                have HIZ : Hid (∀ W, Ext wy W → InI W (.slice AZ nz cZ) z.names) := Lib.hid (fun W hW => (hnz.ext hW).inV)
                have HIY : Hid (∀ W, Ext wy W → InI W (.slice AY ny cY) s.names) := Lib.hid (fun W hW => (hB.o.ext hW).inV)
                clear hrz hnz
                refine wp_region_still_tail 10 (by kernel_rfl) (by kernel_rfl) ?_
                simp only [List.append_eq, List.cons_append, List.nil_append, List.take_succ_cons, List.take_zero, List.drop_succ_cons, List.drop_zero]
                refine WStill.out ?_
                iterate 10
                  refine wstill_step (fun K hK => ?_)
                  go_simp
                  refine hK _ ?_
                  clear hK K
                refine wstill_nil ?_
                change wpList _ _ _ _ _ wy.drew
                have hXd := (Ext.refl wy).drew
                have hiz := HIZ.out _ hXd
                have hiy := HIY.out _ hXd
                clear k0 k1 k2 r0 r1 r2
                generalize wy.drew = wd at *
                go_wp2_with fail
                refine (refSame21_any z s _ _ wd hiz hiy (by rw [← HNZ.out]; omega)).mono ?_
                rintro en0 w5 ⟨rfl, hx5⟩
                obtain ⟨db, hdb⟩ : ∃ d, d = decide (z.tag = s.tag ∧ z.kids = s.kids ∧ z.names = s.names) := ⟨_, rfl⟩
                have HQ2 : Hid ((!db) = true ↔ ∃ h : m < zs.length, zs[m].1 ≠ s) := Lib.hid (by
                  rw [HQ.out, hdb, Bool.not_eq_true', decide_eq_false_iff_not, sames_iff])
                rw [← hdb]
                have hX5 := hXd.trans hx5
                clear hdb hx5 hXd hiz hiy
                go_wp2_with fail
                go_meet
                exact ⟨!db, rfl, HQ2.out, hX5⟩
              obtain ⟨d, rfl, hd, hxc⟩ := hcut
              obtain ⟨wx, rfl⟩ : ∃ W : World, W = wc := ⟨_, rfl⟩
              replace hE := hE.aside hxc
              replace hB := hB.ext hxc
              clear hxc
              cases d with
              | true =>
                obtain ⟨hml, hne⟩ := hd.1 rfl
                have HNX : Hid (∀ i (h : i < zs.length), i < m + 1 → zs[i].1 ≠ s) := Lib.hid (fun i h h2 => by
                  by_cases e : i = m
                  · subst e; exact hne
                  · exact HNO.out i h (by omega))
                have hmz : m + 1 ≤ zl := by rw [HZL.out]; omega
                have hwm : IntKind.i64.wrap ((m : Int) + 1) = ((m + 1 : Nat) : Int) := by rw [IntKind.wrap_i64]; omega
                clear hd hne hml
                go_wp2_with fail
                go_roundw
                case rel => exact ⟨m + 1, hmz, by first | (with_reducible rfl) | go_num, HNX, hE, hB⟩
                case measure => simp [intOf]; omega
              | false =>
                have HF : Hid (∀ h : m < zs.length, zs[m].1 = s) := Lib.hid (fun h => by
                  by_cases e : zs[m].1 = s
                  · exact e
                  · have := hd.2 ⟨h, e⟩; cases this)
                clear hd
                have hfnd := sh_found (Z := zs.map Prod.fst) (s := s) (m := m) (fun z hz => by
                  obtain ⟨x, hx, rfl⟩ := List.mem_map.1 hz
                  exact HZ.out x hx) HSO.out (by rw [List.length_map, ← HZL.out]; exact hm) (fun i h h2 => by
                  rw [List.getElem_map]
                  exact HNO.out i (by simpa using h) h2) (fun h => by
                  rw [List.getElem_map]
                  exact HF.out (by simpa using h))
                rw [List.map_map, List.length_map, ← HZL.out] at hfnd
                obtain ⟨S2, hS2⟩ : ∃ S, S = addS (zs.map (fun z => shB z.1)) (shB s) := ⟨_, rfl⟩
                have hfn1 : (if m = zl then (zs.map (fun z => shB z.1)) ++ [shB s] else zs.map (fun z => shB z.1)) = S2 := by rw [hS2]; exact hfnd.1
                have hfn2 : S2.idxOf (shB s) = m := by rw [hS2]; exact hfnd.2
                have HD3 : Hid (encL l ([], []) = encL (l.drop (j + 1)) (S2, en ++ entB e (m + 1) nd)) := Lib.hid (by
                  rw [← hfn2, hS2]
                  exact HD2.out)
                have HF1 := Lib.hid hfn1
                clear HD2 hfnd hfn1 hfn2 hS2 HF HNO
                go_upto_if 66 with fail
                go_cut [4, 5] (fun sv2 av2 wx => ∃ (zs2 : List (RSh × Value)) (ab2 : List UInt8), Hid (zs2.map (fun z => shB z.1) = S2) ∧ Hid (∀ z ∈ zs2, ShOf z.1) ∧ zs2.length ≤ j + 1 ∧ Hid (ab2 = zs2.flatMap (fun z => shB z.1)) ∧ ab2.length ≤ 1200000 ∧ EncR w zs2 sv2 av2 ab2 u6 en wx ∧ wx.heap[g9]? = some (.cells #[.int .i64 xd, .int .i64 e.tag, .slice A2 n2 c2] 26 (0, 0)))
                case first =>
                  by_cases hml : m = zl
                  case neg =>
                    have d1 : ((m : Int) == (zl : Int)) = false := by simp; omega
                    have d2 : decide ((m : Int) = (zl : Int)) = false := by simp; omega
                    have d3 : decide (m = zl) = false := by simpa using hml
                    have HS2 : Hid (zs.map (fun z => shB z.1) = S2) := Lib.hid (by rw [← HF1.out, if_neg hml])
                    have hE9 := hB.e
                    clear hml
                    go_wp2_with fail
                    go_meet
                    exact ⟨zs, ab, HS2, HZ, by have := HZL.out; omega, HAB, habl, hE, hE9⟩
                  subst hml
                  have d1 : ((m : Int) == (m : Int)) = true := by simp
                  have d2 : decide ((m : Int) = (m : Int)) = true := by simp
                  have HS2 : Hid ((zs ++ [(s, Value.slice AY ny cY)]).map (fun z => shB z.1) = S2) := Lib.hid (by rw [← HF1.out, if_pos rfl, List.map_append]; rfl)
                  have HZ2 : Hid (∀ z ∈ zs ++ [(s, Value.slice AY ny cY)], ShOf z.1) := Lib.hid (fun z hz => by
                    rcases List.mem_append.1 hz with hz | hz
                    · exact HZ.out z hz
                    · simp only [List.mem_singleton] at hz
                      subst hz
                      exact HSO.out)
                  have hldh := run_loadAt_blk (P := Try.prog) wx g10 69 69 _ (0, 0) _ hB.h Try.underlying69 rfl sh_size
                  have hA5 := (Ext.refl wx).alloc (.cells #[.int .i64 s.tag, .int .i64 s.kids, .slice AY ny cY] 69)
                  have hin5 : InR rshCells (wx.alloc (.cells #[.int .i64 s.tag, .int .i64 s.kids, .slice AY ny cY] 69)) (.slice (some ⟨wx.heap.size, 0, none⟩) 1 1) [(s, .slice AY ny cY)] := (OwnR_one (f := rshCells) wx (s, .slice AY ny cY) rfl 69).inR
                  have hone : ∀ z ∈ [((s, (Value.slice AY ny cY)) : RSh × Value)], ∀ u ∈ rshCells z, u.oneCell' = true := fun z hz u hu => by
                    simp only [List.mem_singleton] at hz
                    subst hz
                    simp only [rshCells, List.mem_cons, List.not_mem_nil, or_false] at hu
                    rcases hu with rfl | rfl | rfl <;> rfl
                  have hE5 := hE.aside hA5
                  have hB5 := hB.ext hA5
                  have hsh5 := hE5.sh
                  have hsz5 := hE5.size
                  go_wp2_with first | refine wpList_load_run rfl 69 (.tmp 10) rfl _ _ rfl hldh ?_ | refine wpList_rowOne elem_sh rfl (.tmp 68) rfl #[.int .i64 s.tag, .int .i64 s.kids, .slice AY ny cY] rfl rfl (by omega) ?_ | (at_builtin; go_must (refine wpList_appendR elem_sh rfl (.tmp 67) (.tmp 69) rfl w.heap.size _ zs (by first | rfl | exact congrArg _ HZL.out) hsh5 _ [(s, .slice AY ny cY)] rfl hin5 (fun _ _ => rfl) hone (by have := HZL.out; simp only [List.length_cons, List.length_nil]; omega) (by omega) hsz5 (Hold.out ?_)))
                  refine Hold.mk fun v9 w9 ho9 hg9 => ?_
                  have hE9 := hE5.pushS (hB5.o) ho9 hg9
                  have hne10 : (Value.slice AS m cS).ownBlock ≠ some g10 := fun e => HSN.out g10 e rfl
                  have hB9 : XB w g9 g10 #[.int .i64 xd, .int .i64 e.tag, .slice A2 n2 c2] #[.int .i64 s.tag, .int .i64 s.kids, .slice AY ny cY] (.slice AY ny cY) s.names w9 := ⟨blk_grown hB5.e hg9.grown (fun e => hsh5.ne_blk hB5.e (by decide) e.symm), blk_grown hB5.h hg9.grown (fun e => hne10 e.symm), hB5.o.kept hg9.grown (row_ne hB5.o hsh5 (by decide))⟩
                  clear hldh hA5 hin5 hone hE5 hB5 hsh5 hsz5 ho9 hg9 hne10 hE hB
                  obtain ⟨q, hq⟩ : ∃ q : Nat, q = ny / 2 := ⟨_, rfl⟩
                  have hq1 : (ny : Int).tdiv 2 = (q : Int) := by rw [Int.tdiv_eq_ediv_of_nonneg (by omega)]; omega
                  have hq2 : IntKind.i64.wrap ((ny : Int).tdiv 2) = (q : Int) := by rw [hq1, IntKind.wrap_i64]; omega
                  have hq3 : IntKind.i64.wrap (q : Int) = (q : Int) := by rw [IntKind.wrap_i64]; omega
                  have HVL : Hid (s.tag :: s.kids :: (q : Int) :: s.names = shN s) := Lib.hid (by unfold shN; rw [hq, HNY.out]; rfl)
                  clear hq
                  have hA6 := (Ext.refl w9).alloc (.cells #[.int .i64 s.tag, .int .i64 s.kids, .int .i64 (q : Int)] 3)
                  have ho6 := OwnV_three w9 s.tag s.kids q
                  have hin6 : InV iv (w9.alloc (.cells #[.int .i64 s.tag, .int .i64 s.kids, .int .i64 (q : Int)] 3)) (.slice AY ny cY) s.names := (hB9.o.ext hA6).inV
                  have hsz6 := hA6.size
                  obtain ⟨r0, r1, r2⟩ := blk3 hB9.h
                  have r2a := hA6.cell r2
                  go_wp2_with (at_builtin; go_must (refine wpList_appendV elem_in (fun _ => rfl) rfl (.tmp 79) (.tmp 81) rfl w9.heap.size _ [s.tag, s.kids, (q : Int)] rfl ho6 _ s.names rfl hin6 (by rw [← HNY.out]; simp only [List.length_cons, List.length_nil]; omega) (by omega) hsz6 (Hold.out ?_)))
                  refine Hold.mk fun v8 w8 ho8 hg8 => ?_
                  have hX8 : Ext w9 w8 := hg8.ext hA6 ho6.ge
                  rw [HVL.out] at ho8
                  have hE8 := hE9.aside hX8
                  have hB8 := hB9.ext hX8
                  have ho8 := ho8.low hE9.size
                  clear hA6 ho6 hin6 hsz6 r0 r1 r2 r2a hg8 hX8 hE9 hB9 hq1 hq2 hq3
                  obtain ⟨A8, c8, hv8, _⟩ := id ho8.inV
                  obtain ⟨n8, hn8⟩ : ∃ n, n = (shN s).length := ⟨_, rfl⟩
                  have hn8l : n8 ≤ 27 := by
                    have := HSO.out.len
                    rw [hn8]
                    unfold shN
                    rw [List.length_append]
                    simp only [List.length_cons, List.length_nil]
                    omega
                  rw [← hn8] at hv8
                  subst hv8
                  have HN8 := Lib.hid hn8
                  clear hn8
                  have hab0 : ab.length ≤ 1080000 := by
                    rw [HAB.out]
                    have := flatB_len HZ.out
                    have := HZL.out
                    omega
                  obtain ⟨sv9, rfl⟩ : ∃ x : Value, x = v9 := ⟨_, rfl⟩
                  go_wp2_with fail
                  go_loopw [5, 84] (fun av i wr => ∃ (k : Nat) (abk : List UInt8), k ≤ n8 ∧ i = .int .i64 (k : Int) ∧ Hid (abk = ab ++ numB ((shN s).take k)) ∧ abk.length ≤ 1080000 + 10 * k ∧ EncR w (zs ++ [(s, .slice AY ny cY)]) sv9 av abk u6 en wr ∧ XB w g9 g10 #[.int .i64 xd, .int .i64 e.tag, .slice A2 n2 c2] #[.int .i64 s.tag, .int .i64 s.kids, .slice AY ny cY] (.slice AY ny cY) s.names wr ∧ OwnV iv 3 w.heap.size wr (.slice A8 n8 c8) (shN s)) (fun _ i _ => n8 - (intOf i).toNat)
                  case atStart => exact ⟨0, ab, by omega, rfl, Lib.hid (by simp [numB]), by omega, hE8, hB8, ho8⟩
                  case round =>
                    clear hE8 hB8 ho8
                    obtain ⟨k, abk, hk, rfl, HK, hkl, hE, hB, ho⟩ := hrel
                    obtain ⟨wk, rfl⟩ : ∃ W : World, W = wr := ⟨_, rfl⟩
                    by_cases hk8 : k < n8
                    · have hik : (k : Int) < (n8 : Int) := by omega
                      have hk8' : k < (shN s).length := by rw [← HN8.out]; exact hk8
                      obtain ⟨Ax, cx, ex, _, hrd⟩ := id ho.inV
                      have eA : A8 = Ax := by injection ex
                      subst eA
                      clear ex
                      obtain ⟨b8, o8, eA8, hc8⟩ := hrd.at2 (k := k) (by simpa using hk8')
                      rw [List.getElem_map] at hc8
                      have hvr := HSO.out.rng _ (List.getElem_mem hk8')
                      have HTK : Hid (numB ((shN s).take (k + 1)) = numB ((shN s).take k) ++ uintB (shN s)[k]) := Lib.hid (by rw [List.take_succ_eq_append_getElem hk8', numB_app, numB_one])
                      generalize (shN s)[k] = vk at *
                      simp only [iv] at hc8
                      clear hrd
                      have HA8 := Lib.hid eA8
                      have ho' := ho
                      rw [eA8] at ho'
                      obtain ⟨av, rfl⟩ : ∃ x : Value, x = u5 := ⟨_, rfl⟩
                      subst eA8
                      go_wp2_with fail
                      refine (refAppendUint_any _ [] vk wk (InV.nil wk) (by simp) hvr.2).mono ?_
                      rintro en0 w7 ⟨y7, rfl, hy7, hx7⟩
                      have hE7 := hE.aside hx7
                      have hB7 := hB.ext hx7
                      have ho7 := ho.ext hx7
                      have hab7 := hE7.ab
                      have hsz7 := hE7.size
                      have hin7 : InV bv w7 y7 (uintB vk) := hy7.inB
                      have hul : (uintB vk).length ≤ 10 := uintB_len (by omega)
                      clear hc8 hy7 hx7 hE hB ho ho'
                      go_wp2_with (at_builtin; go_must (refine wpList_appendV elem_u8 (fun _ => rfl) rfl (.tmp 88) (.tmp 90) rfl w.heap.size _ abk rfl hab7 _ (uintB vk) rfl hin7 (by omega) (by omega) hsz7 (Hold.out ?_)))
                      refine Hold.mk fun va wa hoa hga => ?_
                      have hEa := hE7.pushA hoa hga
                      have hBa := hB7.push hab7 hga
                      have hoa8 := ho7.kept hga.grown (row_ne ho7 hab7 (by decide))
                      have hkla : (abk ++ uintB vk).length ≤ 1080000 + 10 * (k + 1) := by rw [List.length_append]; omega
                      have HKA : Hid (abk ++ uintB vk = ab ++ numB ((shN s).take (k + 1))) := Lib.hid (by rw [HTK.out, HK.out, List.append_assoc])
                      clear hE7 hB7 ho7 hab7 hsz7 hin7 hul hoa hga
                      go_wp2_with fail
                      go_roundw
                      case rel => exact ⟨k + 1, _, by omega, by first | (with_reducible rfl) | go_num, HKA, hkla, hEa, hBa, hoa8⟩
                      case measure => simp [intOf]; omega
                    · have hik : ¬ (k : Int) < (n8 : Int) := by omega
                      have HAB2 : Hid (abk = (zs ++ [(s, Value.slice AY ny cY)]).flatMap (fun z => shB z.1)) := Lib.hid (by
                        rw [HK.out, List.take_of_length_le (by have := HN8.out; omega), List.flatMap_append, HAB.out]
                        simp [shB])
                      have hzl2 : (zs ++ [(s, Value.slice AY ny cY)]).length ≤ j + 1 := by
                        have := HZL.out
                        simp only [List.length_append, List.length_cons, List.length_nil]
                        omega
                      have hbe := hB.e
                      go_wp2_with fail
                      go_meet
                      exact ⟨_, abk, HS2, HZ2, hzl2, HAB2, by omega, hE, hbe⟩
                obtain ⟨zs2, ab2, HS2, HZ2, hzl2, HAB2, hab2, hE, hG9⟩ := hcut
                obtain ⟨wq, rfl⟩ : ∃ W : World, W = wc := ⟨_, rfl⟩
                obtain ⟨sv2, rfl⟩ : ∃ x : Value, x = u4 := ⟨_, rfl⟩
                obtain ⟨av2, rfl⟩ : ∃ x : Value, x = u5 := ⟨_, rfl⟩
                clear hB HF1 HZ HAB habl HSN
                obtain ⟨m1, hm1⟩ : ∃ k : Int, k = (m : Int) + 1 := ⟨_, rfl⟩
                have hwm : IntKind.i64.wrap ((m : Int) + 1) = m1 := by rw [IntKind.wrap_i64]; omega
                have hm1l : m1 ≤ 9223372036854775807 := by omega
                rw [← hm1] at HD3
                clear hm1
                go_wp2_with fail
                refine (refAppendUint_any _ [] m1 wq (InV.nil wq) (by simp) hm1l).mono ?_
                rintro en0 w7 ⟨y7, rfl, hy7, hx7⟩
                have hE7 := hE.aside hx7
                have hG7 := hx7.heap hG9
                have hent7 := hE7.ent
                have hsz7 := hE7.size
                have hin7 : InV bv w7 y7 (uintB m1) := hy7.inB
                have hul : (uintB m1).length ≤ 10 := uintB_len (by omega)
                clear hy7 hx7 hE hG9
                go_wp2_with (at_builtin; go_must (refine wpList_appendV elem_u8 (fun _ => rfl) rfl (.tmp 93) (.tmp 96) rfl w.heap.size _ en rfl hent7 _ (uintB m1) rfl hin7 (by omega) (by omega) hsz7 (Hold.out ?_)))
                refine Hold.mk fun va wa hoa hga => ?_
                have hEa := hE7.pushE hoa hga
                have hGa := blk_grown hG7 hga.grown (fun e => hent7.ne_blk hG7 (by decide) e.symm)
                obtain ⟨r0, r1, r2⟩ := blk3 hGa
                have hel1 : (en ++ uintB m1).length ≤ 650 * j + 42 := by rw [List.length_append]; omega
                clear hE7 hG7 hent7 hsz7 hin7 hul hoa hga
                go_wp2_with fail
                clear r0 r1 r2 hGa
                go_loopw [6, 101] (fun ev i wr => ∃ (k : Nat) (enk : List UInt8), k ≤ n2 ∧ i = .int .i64 (k : Int) ∧ Hid (enk = en ++ (uintB m1 ++ (e.attrs.take k).flatMap valB)) ∧ enk.length ≤ 650 * j + 42 + 50 * k ∧ EncR w zs2 sv2 av2 ab2 ev enk wr) (fun _ i _ => n2 - (intOf i).toNat)
                case atStart => exact ⟨0, _, by omega, rfl, Lib.hid (by simp), by omega, hEa⟩
                case round =>
                  clear hEa
                  obtain ⟨k, enk, hk, rfl, HK, hkl, hE⟩ := hrel
                  obtain ⟨wk, rfl⟩ : ∃ W : World, W = wr := ⟨_, rfl⟩
                  by_cases hk2 : k < n2
                  · have hik : (k : Int) < (n2 : Int) := by omega
                    have hk2' : k < e.attrs.length := by rw [← HN2.out]; exact hk2
                    obtain ⟨b2, o2, hAe, hra⟩ := (HAT.out.ext hE.ext).at_ (k := 4) (fun z hz => rfl) (by omega) hk2'
                    subst hAe
                    have hoa := HOA.out.2.1 _ (List.getElem_mem hk2')
                    have haI := heI.attrs _ (List.getElem_mem hk2')
                    have HTK : Hid ((e.attrs.take (k + 1)).flatMap valB = (e.attrs.take k).flatMap valB ++ valB e.attrs[k]) := Lib.hid (by rw [List.take_succ_eq_append_getElem hk2', List.flatMap_append]; simp)
                    generalize e.attrs[k] = a at *
                    have hvl := valB_len hoa haI
                    have hlda := att_load hra
                    obtain ⟨hst, hG, hXG⟩ := box_new (P := Try.prog) wk 40 #[.int .i64 0, .int .i64 0, .int .i64 0, .string ByteArray.empty] #[.int .i64 a.name, .int .i64 a.form, .int .i64 a.value, .string a.text] at_size rfl (by simp [Value.oneCell'])
                    go_upto_region 29 with first | refine wpList_load_run rfl 40 (.tmp 103) rfl _ _ rfl hlda ?_ | refine wpList_store_run rfl 40 (.tmp 15) (.tmp 104) rfl _ _ _ rfl rfl hst ?_
                    obtain ⟨g15, hg15⟩ : ∃ g, g = wk.heap.size := ⟨_, rfl⟩
                    rw [← hg15] at hG hXG ⊢
                    generalize (wk.alloc (.cells #[.int .i64 0, .int .i64 0, .int .i64 0, .string ByteArray.empty] 40)).setRow g15 #[.int .i64 a.name, .int .i64 a.form, .int .i64 a.value, .string a.text] = wg at *
                    try dsimp only [Act.put]
                    have hldt := run_loadAt_blk (P := Try.prog) wg g15 40 40 _ (0, 0) _ hG Try.underlying40 rfl at_size
                    replace hE := hE.aside hXG
                    clear hst hlda hra hXG hg15 hG
                    go_wp2_with first | refine wpList_load_run rfl 40 (.tmp 15) rfl _ _ rfl hldt ?_
                    refine (refValue_any a wg hoa haI).mono ?_
                    rintro en0 w7 ⟨y7, rfl, hy7, hx7⟩
                    have hE7 := hE.aside hx7
                    have hent7 := hE7.ent
                    have hsz7 := hE7.size
                    have hin7 : InV bv w7 y7 (valB a) := hy7.inV
                    clear hy7 hx7 hE hldt
                    go_wp2_with (at_builtin; go_must (refine wpList_appendV elem_u8 (fun _ => rfl) rfl (.tmp 105) (.tmp 107) rfl w.heap.size _ enk rfl hent7 _ (valB a) rfl hin7 (by omega) (by omega) hsz7 (Hold.out ?_)))
                    refine Hold.mk fun va wa hoa2 hga => ?_
                    have hEa := hE7.pushE hoa2 hga
                    have hkla : (enk ++ valB a).length ≤ 650 * j + 42 + 50 * (k + 1) := by rw [List.length_append]; omega
                    have HKA : Hid (enk ++ valB a = en ++ (uintB m1 ++ (e.attrs.take (k + 1)).flatMap valB)) := Lib.hid (by rw [HTK.out, HK.out, List.append_assoc, List.append_assoc])
                    clear hE7 hent7 hsz7 hin7 hoa2 hga hvl
                    go_wp2_with fail
                    go_roundw
                    case rel => exact ⟨k + 1, _, by omega, by first | (with_reducible rfl) | go_num, HKA, hkla, hEa⟩
                    case measure => simp [intOf]; omega
                  · have hik : ¬ (k : Int) < (n2 : Int) := by omega
                    have HDN : Hid (encL l ([], []) = encL (l.drop (j + 1)) (zs2.map (fun z => shB z.1), enk ++ List.replicate (xd - headD (l.drop (j + 1))).toNat 0)) := Lib.hid (by
                      rw [HD3.out, HS2.out, HK.out, List.take_of_length_le (by have := HN2.out; omega), ← hnd, HXE.out]
                      unfold entB
                      rw [List.append_assoc, List.append_assoc])
                    have hwj : IntKind.i64.wrap ((j : Int) + 1) = ((j + 1 : Nat) : Int) := by rw [IntKind.wrap_i64]; omega
                    go_wp2_with fail
                    go_roundw
                    case rel => exact ⟨j + 1, zs2, ab2, enk, xd, by omega, by first | (with_reducible rfl) | go_num, rfl, hxdr, fun h => by omega, HDN, HZ2, hzl2, HAB2, hab2, by omega, hE⟩
                    case measure => simp [intOf]; omega
      · have hij : ¬ (j : Int) < (n : Int) := by omega
        have HD4 : Hid (encL l ([], []) = (zs.map (fun z => shB z.1), en ++ List.replicate dd.toNat 0)) := Lib.hid (by
          have := HD.out
          rw [List.drop_of_length_le (by have := HN.out; omega)] at this
          rw [this]
          show (_, en ++ List.replicate (dd - 0).toNat 0) = _
          rw [Int.sub_zero])
        obtain ⟨T, hT⟩ : ∃ T, T = en ++ List.replicate dd.toNat 0 := ⟨_, rfl⟩
        rw [← hT] at HD4
        have HT : Hid (en ++ List.replicate dd.toNat 0 = T) := Lib.hid hT.symm
        clear hT HD
        go_wp2_with fail
        go_loopw [6, 7] (fun ev d wr => ∃ (en : List UInt8) (dd : Int), d = .int .i64 dd ∧ (0 ≤ dd ∧ dd ≤ 32) ∧ Hid (en ++ List.replicate dd.toNat 0 = T) ∧ en.length + dd.toNat ≤ 650 * n + 32 ∧ EncR w zs sv av ab ev en wr) (fun _ d _ => (intOf d).toNat)
        case atStart => exact ⟨en, dd, rfl, by omega, HT, by have : 650 * j ≤ 650 * n := Nat.mul_le_mul_left _ hj; omega, hE⟩
        case round =>
          clear hE HT hd0 hdd hel
          obtain ⟨en, dd, rfl, hdd, HT, hel, hE⟩ := hrel
          obtain ⟨wz, rfl⟩ : ∃ W : World, W = wr := ⟨_, rfl⟩
          by_cases hz : 0 < dd
          · have d3 : decide (0 < dd) = true := by simpa using hz
            have hwd : IntKind.i64.wrap (dd - 1) = dd - 1 := by rw [IntKind.wrap_i64]; omega
            have HTN : Hid ((en ++ [0]) ++ List.replicate (dd - 1).toNat 0 = T) := Lib.hid (by
              have e : dd.toNat = (dd - 1).toNat + 1 := by omega
              have := HT.out
              rw [e, List.replicate_succ] at this
              rw [List.append_assoc]
              exact this)
            have hlN : (en ++ [0]).length + (dd - 1).toNat ≤ 650 * n + 32 := by
              rw [List.length_append]
              simp only [List.length_cons, List.length_nil]
              omega
            go_upto_region 34 with fail
            have hA0 := (Ext.refl wz).alloc (.cells #[bv 0] 5)
            have hin0 : InV bv (wz.alloc (.cells #[bv 0] 5)) (.slice (some ⟨wz.heap.size, 0, none⟩) 1 1) [0] := (OwnV_new (f := bv) wz 0 5).inV
            have hE0 := hE.aside hA0
            have hent0 := hE0.ent
            have hsz0 := hE0.size
            go_wp2_with (at_builtin; go_must (refine wpList_appendV elem_u8 (fun _ => rfl) rfl (.tmp 115) (.tmp 116) rfl w.heap.size _ en rfl hent0 _ [0] rfl hin0 (by simp only [List.length_cons, List.length_nil]; omega) (by omega) hsz0 (Hold.out ?_)))
            refine Hold.mk fun v9 w9 ho9 hg9 => ?_
            have hE9 := hE0.pushE ho9 hg9
            skip
            clear hA0 hin0 hE0 hent0 hsz0 ho9 hg9
            go_wp2_with fail
            go_roundw
            case rel => exact ⟨_, dd - 1, rfl, by omega, HTN, hlN, hE9⟩
            case measure => simp [intOf]; omega
          · have d3 : decide (0 < dd) = false := by simpa using hz
            have heT : en = T := by
              have h0 : dd.toNat = 0 := by omega
              have := HT.out
              rw [h0] at this
              simpa using this
            have HEE : Hid (EncE l = if 200 < zs.length ∨ 60000 < ab.length ∨ 60000 < en.length then ([], []) else (ab, en)) := Lib.hid (by
              unfold EncE
              rw [if_pos HR.out, HD4.out, heT, HAB.out, flatB_flat]
              simp only [List.length_map])
            clear heT HT HD4
            obtain ⟨AS, cS, hsv, _⟩ := id hE.sh.inR
            obtain ⟨AV, cV, hav, _⟩ := id hE.ab.inV
            obtain ⟨AE, cE, hev, _⟩ := id hE.ent.inV
            obtain ⟨zl, hzl'⟩ : ∃ z, z = zs.length := ⟨_, rfl⟩
            obtain ⟨al, hal⟩ : ∃ z, z = ab.length := ⟨_, rfl⟩
            obtain ⟨el, hel'⟩ : ∃ z, z = en.length := ⟨_, rfl⟩
            rw [← hzl'] at hsv HEE
            rw [← hal] at hav HEE
            rw [← hel'] at hev HEE
            subst hsv hav hev
            have hX := hE.ext
            have hoab := hE.ab
            have hoen := hE.ent
            clear hzl' hal hel' hE
            by_cases e1 : 200 < zl
            · have t1 : decide ((200 : Int) < (zl : Int)) = true := by simp; omega
              have HQ : Hid (EncE l = ([], [])) := Lib.hid (by rw [HEE.out, if_pos (.inl e1)])
              clear e1
              go_wp2_with fail
              refine bodyPost_ret (by simp [results, Try.results10, go_sem]; rfl) rfl ?_
              exact ⟨_, _, rfl, by rw [HQ.out]; exact OwnV.nil _, by rw [HQ.out]; exact OwnV.nil _, hX⟩
            have t1 : decide ((200 : Int) < (zl : Int)) = false := by simp; omega
            by_cases e2 : 60000 < al
            · have t2 : decide ((60000 : Int) < (al : Int)) = true := by simp; omega
              have HQ : Hid (EncE l = ([], [])) := Lib.hid (by rw [HEE.out, if_pos (.inr (.inl e2))])
              clear e1 e2
              go_wp2_with fail
              refine bodyPost_ret (by simp [results, Try.results10, go_sem]; rfl) rfl ?_
              exact ⟨_, _, rfl, by rw [HQ.out]; exact OwnV.nil _, by rw [HQ.out]; exact OwnV.nil _, hX⟩
            have t2 : decide ((60000 : Int) < (al : Int)) = false := by simp; omega
            by_cases e3 : 60000 < el
            · have t3 : decide ((60000 : Int) < (el : Int)) = true := by simp; omega
              have HQ : Hid (EncE l = ([], [])) := Lib.hid (by rw [HEE.out, if_pos (.inr (.inr e3))])
              clear e1 e2 e3
              go_wp2_with fail
              refine bodyPost_ret (by simp [results, Try.results10, go_sem]; rfl) rfl ?_
              exact ⟨_, _, rfl, by rw [HQ.out]; exact OwnV.nil _, by rw [HQ.out]; exact OwnV.nil _, hX⟩
            have t3 : decide ((60000 : Int) < (el : Int)) = false := by simp; omega
            have HQ : Hid (EncE l = (ab, en)) := Lib.hid (by rw [HEE.out, if_neg (by omega)])
            clear e1 e2 e3
            go_wp2_with fail
            refine bodyPost_ret (by simp [results, Try.results10, go_sem]; rfl) rfl ?_
            exact ⟨_, _, rfl, by rw [HQ.out]; exact hoab, by rw [HQ.out]; exact hoen, hX⟩
end Go.Proofs.Ytopanbcodfkedaa
