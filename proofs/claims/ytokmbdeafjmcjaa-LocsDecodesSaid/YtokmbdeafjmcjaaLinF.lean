/- The walk of Encode. -/
import Derived.Test.YtokmbdeafjmcjaaLinE
namespace Go.Proofs.Ytokmbdeafjmcjaa
open Go.RowKit
set_option linter.unusedVariables false

theorem rowsN_take_le (l : List LTab) (j : Nat) : rowsN (l.take j) ≤ rowsN l := by
  have := rowsN_drop l j
  omega
theorem encTab_split (t : LTab) (pre : List UInt8) : pre ++ encTab t = (((pre ++ uintB t.lo) ++ uintB t.hi) ++ encRows (row0 t.lo) t.rows) ++ [0] := by simp [encTab]
theorem ES.aside {w W W' : World} {base g g7 g8 g10 : Nat} {t : LTab} {y : Value} {s r : LRow} {cur : List UInt8} (h : ES w base g g7 g8 g10 t y s r cur W) (he : Ext W W') : ES w base g g7 g8 g10 t y s r cur W' :=
  ⟨h.buf.ext he, he.heap h.tab, he.heap h.sta, he.heap h.row, h.ext.trans he, Nat.le_trans h.size he.size, h.low⟩
def EncPost (l : List UInt8) (w : World) (en : Ending) (w' : World) : Prop := ∃ y, en = .returned y ∧ OwnV bv 5 w.heap.size w' y l ∧ Ext w w'
set_option maxHeartbeats 40000000 in
set_option maxRecDepth 100000 in
theorem Encode_any (l : List LTab) (v : Value) (w : World) (hv : LTabs w v l) (hI : ∀ t ∈ l, t.I) (hl : l.length ≤ 9223372036854775807) : Calls Try.prog 30 #[v] w (EncPost (EncL l) w) := by
  obtain ⟨A, c, rfl⟩ := hv.form
  have HV := Lib.hid hv
  have HI := Lib.hid hI
  clear hv hI
  go_enter Try.func30, Try.ntmps30
  go_wp2_with fail
  refine (Right_any l _ w HV.out HI.out hl).mono ?_
  rintro en w1 ⟨r, rfl, hr, hx1⟩
  cases r with
  | false =>
    have HN : Hid (EncL l = []) := Lib.hid (by unfold EncL; rw [if_neg (fun h => by have := hr.2 h; cases this)])
    clear hr
    go_wp2_with fail
    refine bodyPost_ret (by simp [results, Try.results30, go_sem]; rfl) rfl ?_
    exact ⟨_, rfl, by rw [HN.out]; exact OwnV.nil _, hx1⟩
  | true =>
    have HR := Lib.hid (hr.1 rfl)
    clear hr
    have h8 := HR.out.1
    go_upto_region 4 with fail
    obtain ⟨g, hg⟩ : ∃ g, g = w1.heap.size := ⟨_, rfl⟩
    have hwg : w.heap.size ≤ g := by rw [hg]; exact hx1.size
    have hA1 := (Ext.refl w1).alloc (.cells #[.slice none 0 0] 32)
    have hB0 : Buf (w1.alloc (.cells #[.slice none 0 0] 32)).heap.size g (w1.alloc (.cells #[.slice none 0 0] 32)) [] := ⟨_, by rw [hg]; exact heap_alloc_new w1 _, OwnV.nil _⟩
    rw [← hg]
    clear hg
    generalize w1.alloc (.cells #[.slice none 0 0] 32) = W at *
    have hX1 := hx1.trans hA1
    have hs0 : W.heap.size ≤ W.heap.size := Nat.le_refl _
    obtain ⟨base, hbase⟩ : ∃ b, b = W.heap.size := ⟨_, rfl⟩
    rw [← hbase] at hB0
    have hs1 : base ≤ W.heap.size := by omega
    have hwb : w.heap.size ≤ base := by rw [hbase]; exact hX1.size
    clear hbase hs0 hA1 hx1
    go_wp2_with fail
    refine (unsigned_any base g [] (l.length : Int) W hB0 hs1 (by simp) (by omega)).mono ?_
    rintro en w2 ⟨rv, rfl, hb2, ho2⟩
    have hX2 := ho2.ext hX1 hwb hwg
    have hs2 := Nat.le_trans hs1 ho2.size
    have hll := uintB_len (v := (l.length : Int)) (by omega)
    clear hB0 ho2 hX1 hs1
    go_wp2_with fail
    go_loopw [24] (fun i wr => ∃ (j N : Nat) (e : Int) (cur : List UInt8), j ≤ l.length ∧ i = .int .i64 (j : Int) ∧ Hid (cur = uintB l.length ++ (l.take j).flatMap encTab) ∧ cur.length ≤ 10 + 40 * j + 40 * N ∧ N ≤ 8000 ∧ Hid (N = rowsN (l.take j)) ∧ 0 ≤ e ∧ Hid (okTabs e (l.drop j)) ∧ Buf base g wr cur ∧ Ext w wr ∧ base ≤ wr.heap.size) (fun i _ => l.length - (intOf i).toNat)
    case atStart => exact ⟨0, 0, 0, uintB l.length, by omega, rfl, Lib.hid (by simp), by omega, by omega, Lib.hid (by simp [rowsN]), by omega, Lib.hid (by rw [List.drop_zero]; exact HR.out.2.1), by simpa using hb2, hX2, hs2⟩
    case round =>
      clear hb2 hX2 hs2 hll
      obtain ⟨j, N, e, cur, hj, rfl, HC, hcl, hN, HN, he, HO, hBuf, hX, hs⟩ := hrel
      obtain ⟨wo, rfl⟩ : ∃ wo : World, wo = wr := ⟨_, rfl⟩
      by_cases hlt : j < l.length
      · have hij : (j : Int) < (l.length : Int) := by omega
        obtain ⟨bb, oo, y, rfl, hra0, hrw⟩ := HV.out.at_ hlt
        have hra : wo.rangeAt bb (oo + j * 3) (ltabCells (l[j], y)) := fun i u hu => hX.cell (hra0 i u hu)
        have hrows := hrw.ext hX
        clear hra0
        have HD := Lib.hid (List.drop_eq_getElem_cons hlt)
        have HSU := Lib.hid (rowsN_succ hlt)
        have HTK := Lib.hid (List.take_succ_eq_append_getElem hlt)
        have HTI := Lib.hid (HI.out _ (List.getElem_mem hlt))
        generalize l[j] = t at *
        obtain ⟨hok, hoR, hoN⟩ : okTab e t ∧ okRows t.lo t.hi t.rows ∧ okTabs t.hi (l.drop (j + 1)) := by
          have h := HO.out
          rw [HD.out] at h
          exact h
        have HOR := Lib.hid hoR
        have HON := Lib.hid hoN
        unfold okTab at hok
        have hrl8 : N + t.rows.length ≤ 8000 := by
          have h1 := HR.out.2.2
          have h2 := rowsN_take_le l (j + 1)
          rw [HSU.out, ← HN.out] at h2
          omega
        clear hoR hoN HO
        obtain ⟨A2, c2, rfl, _, _⟩ := id hrows
        have hld := ltab_load hra
        obtain ⟨hst, hG, hXG⟩ := box_new (P := Try.prog) wo 46 #[.int .i64 0, .int .i64 0, .slice none 0 0] #[.int .i64 t.lo, .int .i64 t.hi, .slice A2 t.rows.length c2] lt_size rfl (by simp [Value.oneCell'])
        go_upto_region 10 with first | refine wpList_load_run rfl 46 (.tmp 26) rfl _ _ rfl hld ?_ | refine wpList_store_run rfl 46 (.tmp 7) (.tmp 27) rfl _ _ _ rfl rfl hst ?_
        obtain ⟨g7, hg7⟩ : ∃ g, g = wo.heap.size := ⟨_, rfl⟩
        rw [← hg7] at hG hXG ⊢
        generalize (wo.alloc (.cells #[.int .i64 0, .int .i64 0, .slice none 0 0] 46)).setRow g7 #[.int .i64 t.lo, .int .i64 t.hi, .slice A2 t.rows.length c2] = wg at *
        dsimp only [Act.put]
        obtain ⟨r0, r1, r2⟩ := blkT hG
        have hXX := hX.trans hXG
        have hbg := hBuf.ext hXG
        have hsg := Nat.le_trans hs hXG.size
        clear hst hld hra hXG hX hg7 hBuf hs
        go_wp2_with fail
        refine (unsigned_any base g cur t.lo wg hbg hsg (by omega) (by omega)).mono ?_
        rintro en w3 ⟨rv3, rfl, hb3, ho3⟩
        have hG3 := ho3.box hG (hbg.ne hG (by decide)) (by decide)
        have hX3 := ho3.ext hXX hwb hwg
        have hs3 := Nat.le_trans hsg ho3.size
        obtain ⟨p0, p1, p2⟩ := blkT hG3
        have hl1 := uintB_len (v := t.lo) (by omega)
        have hl2 := uintB_len (v := t.hi) (by omega)
        have hcl3 : (cur ++ uintB t.lo).length ≤ 20 + 40 * j + 40 * N := by rw [List.length_append]; omega
        clear r0 r1 r2 hXX hbg hsg ho3 hG
        go_wp2_with fail
        refine (unsigned_any base g _ t.hi w3 hb3 hs3 (by omega) (by omega)).mono ?_
        rintro en w4 ⟨rv4, rfl, hb4, ho4⟩
        have hG4 := ho4.box hG3 (hb3.ne hG3 (by decide)) (by decide)
        have hX4 := ho4.ext hX3 hwb hwg
        have hs4 := Nat.le_trans hs3 ho4.size
        obtain ⟨p0, p1, p2⟩ := blkT hG4
        obtain ⟨cur4, hc4⟩ : ∃ c, c = (cur ++ uintB t.lo) ++ uintB t.hi := ⟨_, rfl⟩
        have hcl4 : cur4.length ≤ 30 + 40 * j + 40 * N := by rw [hc4, List.length_append]; omega
        rw [← hc4] at hb4
        have HC4 := Lib.hid hc4
        clear hX3 hs3 ho4 hG3 hb3 hl1 hl2 hcl3 hc4
        obtain ⟨hst, hG8, hXG⟩ := box_new (P := Try.prog) w4 53 #[.int .i64 0, .int .i64 0, .int .i64 0, .bool false] #[.int .i64 t.lo, .int .i64 0, .int .i64 (-1), .bool false] rw_size rfl (by simp [Value.oneCell'])
        go_upto_region 13 with first | refine wpList_store_run rfl 53 (.tmp 8) (.tmp 38) rfl _ _ _ rfl rfl hst ?_
        obtain ⟨g8, hg8⟩ : ∃ g, g = w4.heap.size := ⟨_, rfl⟩
        have hg8w : w.heap.size ≤ g8 := by rw [hg8]; exact hX4.size
        rw [← hg8] at hG8 hXG ⊢
        generalize (w4.alloc (.cells #[.int .i64 0, .int .i64 0, .int .i64 0, .bool false] 53)).setRow g8 #[.int .i64 t.lo, .int .i64 0, .int .i64 (-1), .bool false] = w5 at *
        dsimp only [Act.put]
        have hG7 := hXG.heap hG4
        have hX5 := hX4.trans hXG
        have hb5 := hb4.ext hXG
        have hs5 := Nat.le_trans hs4 hXG.size
        obtain ⟨p0, p1, p2⟩ := blkT hG7
        clear hst hXG hg8 hX4 hb4 hs4 hG4
        have HRS : Hid (RowSt t.hi (row0 t.lo) t.lo t.rows) := Lib.hid ⟨⟨by simp only [row0]; omega, by simp [row0], by simp [row0]⟩, by simp [row0], HOR.out⟩
        go_wp2_with fail
        go_loopw [42] (fun i wr => ∃ (k : Nat) (s : LRow) (nx : Int) (cu : List UInt8), k ≤ t.rows.length ∧ i = .int .i64 (k : Int) ∧ Hid (cu = cur4 ++ encRows (row0 t.lo) (t.rows.take k)) ∧ Hid (s = lastR (row0 t.lo) (t.rows.take k)) ∧ Hid (RowSt t.hi s nx (t.rows.drop k)) ∧ cu.length ≤ 30 + 40 * j + 40 * N + 40 * k ∧ Buf base g wr cu ∧
          wr.heap[g7]? = some (.cells #[.int .i64 t.lo, .int .i64 t.hi, .slice A2 t.rows.length c2] 46 (0, 0)) ∧ wr.heap[g8]? = some (.cells #[.int .i64 s.addr, .int .i64 s.ctx, .int .i64 s.stmt, .bool s.mark] 53 (0, 0)) ∧ Ext w wr ∧ base ≤ wr.heap.size) (fun i _ => t.rows.length - (intOf i).toNat)
        case atStart => exact ⟨0, row0 t.lo, t.lo, cur4, by omega, rfl, Lib.hid (by simp [encRows]), Lib.hid rfl, HRS, by omega, hb5, hG7, hG8, hX5, hs5⟩
        case round =>
          clear hb5 hG7 hG8 hX5 hs5 HRS p0 p1 p2
          obtain ⟨k, s, nx, cu, hk, rfl, HCU, HLA, HRS, hcu, hb, hG7, hG8, hX, hs⟩ := hrel
          obtain ⟨wz, rfl⟩ : ∃ wz : World, wz = wr := ⟨_, rfl⟩
          by_cases hlk : k < t.rows.length
          · have hki : (k : Int) < (t.rows.length : Int) := by omega
            obtain ⟨b2, o2, hAe, hra⟩ := (hrw.ext hX).at_ (k := 4) (fun _ _ => rfl) (by omega) hlk
            subst hAe
            have HDR := Lib.hid (List.drop_eq_getElem_cons hlk)
            have HTR := Lib.hid (List.take_succ_eq_append_getElem hlk)
            generalize t.rows[k] = r at *
            have hnx := HRS.out
            rw [HDR.out] at hnx
            obtain ⟨hsr, hsa, hnx2⟩ := hnx.next hok.2.2.2
            have hss := HRS.out.1
            have HRS2 := Lib.hid hnx2
            have HSR := Lib.hid hsr
            have HSS := Lib.hid hss
            obtain ⟨a1, a2, a3⟩ := hsr
            obtain ⟨b1, b2', b3⟩ := hss
            clear hnx hnx2 HRS
            have hld := lrow_load hra
            obtain ⟨hst, hG, hXG⟩ := box_new (P := Try.prog) wz 53 #[.int .i64 0, .int .i64 0, .int .i64 0, .bool false] #[.int .i64 r.addr, .int .i64 r.ctx, .int .i64 r.stmt, .bool r.mark] rw_size rfl (by simp [Value.oneCell'])
            go_upto_region 16 with first | refine wpList_load_run rfl 53 (.tmp 44) rfl _ _ rfl hld ?_ | refine wpList_store_run rfl 53 (.tmp 10) (.tmp 45) rfl _ _ _ rfl rfl hst ?_
            obtain ⟨g10, hg10⟩ : ∃ g, g = wz.heap.size := ⟨_, rfl⟩
            rw [← hg10] at hG hXG ⊢
            generalize (wz.alloc (.cells #[.int .i64 0, .int .i64 0, .int .i64 0, .bool false] 53)).setRow g10 #[.int .i64 r.addr, .int .i64 r.ctx, .int .i64 r.stmt, .bool r.mark] = wg at *
            dsimp only [Act.put]
            have hES : ES w base g g7 g8 g10 t (.slice (some ⟨b2, o2, none⟩) t.rows.length c2) s r cu wg := ⟨hb.ext hXG, hXG.heap hG7, hXG.heap hG8, hG, hX.trans hXG, Nat.le_trans hs hXG.size, ⟨hwb, hwg⟩⟩
            have hg810 : g8 ≠ g10 := by have := heap_lt hG8; omega
            clear hst hld hra hXG hX hg10 hb hs hG hG7 hG8
            obtain ⟨r0, r1, r2, r3⟩ := blkR hES.row
            obtain ⟨s0, s1, s2, s3⟩ := blkR hES.sta
            go_upto_if 50 with fail
            go_cut [50] (fun _ wx => ES w base g g7 g8 g10 t (.slice (some ⟨b2, o2, none⟩) t.rows.length c2) s r (cu ++ ctxB s r) wx)
            case first =>
              by_cases hc : r.ctx = s.ctx
              · have d : (r.ctx != s.ctx) = false := by simp [hc]
                have HCX : Hid (ctxB s r = []) := Lib.hid (by unfold ctxB; rw [if_pos hc])
                clear hc
                go_wp2_with fail
                go_meet
                rw [HCX.out, List.append_nil]
                exact hES
              · have d : (r.ctx != s.ctx) = true := by simp [hc]
                have HCX : Hid (ctxB s r = [2] ++ uintB r.ctx) := Lib.hid (by unfold ctxB; rw [if_neg hc]; rfl)
                clear hc
                have hBF := hES.buf
                have hsz := hES.size
                have hCL : cu.length ≤ 900000 := by omega
                obtain ⟨y5, hbk5, hoo5⟩ := hBF
                obtain ⟨A5, c5, hy5, _, _⟩ := hoo5.inV
                obtain ⟨n5, hn5⟩ : ∃ n5, n5 = (cu).length := ⟨_, rfl⟩
                have hcl5 : n5 ≤ 900000 := by rw [hn5]; exact hCL
                rw [← hn5] at hy5
                subst hy5
                have HN5 := Lib.hid hn5
                clear hn5 hCL
                have hld5 := blk_at hbk5 0 _ rfl
                have hA5 := (Ext.refl wg).alloc (.cells #[.int .u8 2] 5)
                have hin5 : InB ((wg).alloc (.cells #[.int .u8 2] 5)) (.slice (some ⟨(wg).heap.size, 0, none⟩) 1 1) [2] := ⟨_, 1, rfl, Nat.le_refl _, Rd_blk (heap_alloc_new _ _)⟩
                have hs5 := Nat.le_trans hsz hA5.size
                go_wp2_with (at_builtin; go_must (refine wpList_appendV elem_u8 (fun _ => rfl) rfl (.tmp 51) (.tmp 52) rfl base _ (cu) rfl (hoo5.ext hA5) _ [2] rfl hin5 (by have := HN5.out; simp only [List.length_cons, List.length_nil]; omega) (by omega) hs5 (Hold.out ?_)))
                refine Hold.mk fun v9 w9 ho9 hg9 => ?_
                obtain ⟨hB9, hO9, hblk9⟩ := Buf.put (hA5.heap hbk5) (hoo5.ext hA5) ho9 hg9
                have hOO9 := (Only.of_ext (base := base) (g := g) hA5).trans hO9
                obtain ⟨V9, d9, hv9, _, _⟩ := ho9.inV
                obtain ⟨n9, hn9⟩ : ∃ n9, n9 = ((cu) ++ [2]).length := ⟨_, rfl⟩
                rw [← hn9] at hv9
                subst hv9
                clear hn9
                have f9 := blk_free hblk9 0
                have q9 := blk_at hblk9 0 _ rfl
                have hlt9 := heap_lt hblk9
                clear ho9 hg9 hO9 hblk9 hbk5 hoo5 hA5 hin5 hs5 hld5 hsz
                have hES9 := hES.only hB9 hOO9
                clear hES hB9 hOO9 r0 r1 r2 r3 s0 s1 s2 s3
                go_upto_region 18 with fail
                generalize w9.setCell ⟨g, 0, none⟩ (.slice V9 n9 d9) = wn at *
                obtain ⟨r0, r1, r2, r3⟩ := blkR hES9.row
                go_wp2_with fail
                refine (unsigned_any base g _ r.ctx wn hES9.buf hES9.size (by rw [List.length_append]; simp only [List.length_cons, List.length_nil]; omega) (by omega)).mono ?_
                rintro en w11 ⟨rv, rfl, hb11, ho11⟩
                have hES11 := hES9.only hb11 ho11
                rw [List.append_assoc, ← HCX.out] at hES11
                clear hES9 hb11 ho11 r0 r1 r2 r3
                go_wp2_with fail
                go_meet
                exact hES11
            clear hES r0 r1 r2 r3 s0 s1 s2 s3
            have HCUN : Hid (cu ++ encRow s r = cur4 ++ encRows (row0 t.lo) (t.rows.take (k + 1))) := Lib.hid (by rw [HTR.out, encRows_snoc, ← HLA.out, ← List.append_assoc, ← HCU.out])
            have HLAN : Hid (r = lastR (row0 t.lo) (t.rows.take (k + 1))) := Lib.hid (by rw [HTR.out, lastR_snoc])
            have hENL := encRow_len HSS.out HSR.out
            have hcuN : (cu ++ encRow s r).length ≤ 30 + 40 * j + 40 * N + 40 * (k + 1) := by rw [List.length_append]; omega
            have hcx := ctxB_len (s := s) HSR.out
            have hES := hcut
            clear hcut HCU HLA HTR HDR
            obtain ⟨up, hup⟩ : ∃ up, up = r.addr - s.addr := ⟨_, rfl⟩
            obtain ⟨more, hmo⟩ : ∃ m, m = r.stmt - s.stmt := ⟨_, rfl⟩
            have w1' : IntKind.i64.wrap (r.addr - s.addr) = up := by rw [IntKind.wrap_i64]; omega
            have w2' : IntKind.i64.wrap (r.stmt - s.stmt) = more := by rw [IntKind.wrap_i64]; omega
            have hupr : 0 ≤ up ∧ up ≤ 1048576 := by omega
            have hmor : -10000 ≤ more ∧ more ≤ 10000 := by omega
            have HEN : Hid (encRow s r = ctxB s r ++ (if shortR up more r.mark then [oneB up more] else upB up ++ (moreB more ++ [if r.mark then 5 else 4]))) := Lib.hid (by rw [hup, hmo]; rfl)
            obtain ⟨cu1, hcu1⟩ : ∃ c, c = cu ++ ctxB s r := ⟨_, rfl⟩
            have hcl1 : cu1.length ≤ 800000 := by rw [hcu1, List.length_append]; omega
            rw [← hcu1] at hES
            have HCU1 := Lib.hid hcu1
            have hu11 := upB_len (up := up) hupr.2
            have hm11 := moreB_len (m := more) (by omega)
            have hcup : (cu1 ++ upB up).length ≤ 800100 := by rw [List.length_append]; omega
            have hcum : ((cu1 ++ upB up) ++ moreB more).length ≤ 800200 := by rw [List.length_append]; omega
            clear hup hmo hcu1 hENL hu11 hm11
            obtain ⟨r0, r1, r2, r3⟩ := blkR hES.row
            obtain ⟨s0, s1, s2, s3⟩ := blkR hES.sta
            go_upto_region 19 with fail
            go_quiet (fail)
            have hES2 := hES.aside ((Ext.refl wc).drewN nq)
            clear hES r0 r1 r2 r3 s0 s1 s2 s3 w1' w2'
            generalize wc.drewN nq = wd at *
            have hldr := run_loadAt_blk (P := Try.prog) wd g10 53 53 _ (0, 0) _ hES2.row Try.underlying53 rfl rw_size
            have hstr := run_storeAt_blk (P := Try.prog) wd g8 53 53 _ #[.int .i64 r.addr, .int .i64 r.ctx, .int .i64 r.stmt, .bool r.mark] hES2.sta rw_size rfl (by simp [Value.oneCell'])
            go_upto_region 21 with first | refine wpList_load_run rfl 53 (.tmp 10) rfl _ _ rfl hldr ?_ | refine wpList_store_run rfl 53 (.tmp 8) (.tmp 68) rfl _ _ _ rfl rfl hstr ?_
            have hES : ES w base g g7 g8 g10 t (.slice (some ⟨b2, o2, none⟩) t.rows.length c2) r r cu1 (wd.setRow g8 #[.int .i64 r.addr, .int .i64 r.ctx, .int .i64 r.stmt, .bool r.mark]) := by
              have gs := gsetRow wd g8 #[.int .i64 r.addr, .int .i64 r.ctx, .int .i64 r.stmt, .bool r.mark]
              have h78 : g7 ≠ g8 := fun e => by
                have h1 := hES2.tab
                rw [e, hES2.sta] at h1
                injection h1 with h1
                injection h1 with _ e2
                exact absurd e2 (by decide)
              refine ⟨hES2.buf.aside hES2.sta (by decide) (by decide) gs, blk_grown hES2.tab gs (fun e => h78 (by cases e; rfl)), setRow_heap _ _ _ _ _ _ hES2.sta, blk_grown hES2.row gs (fun e => hg810 (by cases e; rfl)), hES2.ext.grown gs (fun k e => by cases e; exact hg8w), Nat.le_trans hES2.size gs.size, hES2.low⟩
            clear hldr hstr hES2
            generalize wd.setRow g8 #[.int .i64 r.addr, .int .i64 r.ctx, .int .i64 r.stmt, .bool r.mark] = we at *
            simp only [Act.put, List.setIfInBounds_toArray, List.set_cons_zero, List.set_cons_succ]
            obtain ⟨r0, r1, r2, r3⟩ := blkR hES.row
            go_cut [82] (fun s wx => ∃ d : Bool, s = .bool d ∧ (d = true ↔ shortR up more r.mark) ∧ wx = we)
            case first =>
              by_cases hm : r.mark = true
              case neg =>
                have hm' : r.mark = false := by simpa using hm
                rw [hm'] at r3
                have HM := Lib.hid hm'
                clear hm hm'
                go_wp2_with fail
                go_meet
                exact ⟨false, rfl, ⟨fun h => (by cases h), fun h => (by have := h.1; rw [HM.out] at this; cases this)⟩, rfl⟩
              rw [hm] at r3
              have HM := Lib.hid hm
              clear hm
              by_cases h1 : up ≤ 29
              case neg =>
                have d1 : decide (up ≤ 29) = false := by simp; omega
                go_wp2_with fail
                go_meet
                exact ⟨false, rfl, ⟨fun h => (by cases h), fun h => absurd h.2.1 (by omega)⟩, rfl⟩
              have d1 : decide (up ≤ 29) = true := by simp; omega
              by_cases h2 : -2 ≤ more
              case neg =>
                have d2 : decide (-2 ≤ more) = false := by simp; omega
                go_wp2_with fail
                go_meet
                exact ⟨false, rfl, ⟨fun h => (by cases h), fun h => absurd h.2.2.1 (by omega)⟩, rfl⟩
              have d2 : decide (-2 ≤ more) = true := by simp; omega
              by_cases h3 : more ≤ 5
              case neg =>
                have d3 : decide (more ≤ 5) = false := by simp; omega
                go_wp2_with fail
                go_meet
                exact ⟨false, rfl, ⟨fun h => (by cases h), fun h => absurd h.2.2.2 (by omega)⟩, rfl⟩
              have d3 : decide (more ≤ 5) = true := by simp; omega
              go_wp2_with fail
              go_meet
              exact ⟨true, rfl, ⟨fun _ => ⟨HM.out, h1, h2, h3⟩, fun _ => rfl⟩, rfl⟩
            obtain ⟨d, rfl, hd, rfl⟩ := hcut
            cases d with
            | true =>
              have hsh := hd.1 rfl
              have HEQ : Hid (cu1 ++ [oneB up more] = cu ++ encRow s r) := Lib.hid (by rw [HEN.out, if_pos hsh, HCU1.out, List.append_assoc])
              obtain ⟨_, h1, h2, h3⟩ := hsh
              clear hd HEN
              have v1 : IntKind.i64.wrap (up * 8) = up * 8 := by rw [IntKind.wrap_i64]; omega
              have v2 : IntKind.i64.wrap (16 + up * 8) = 16 + up * 8 := by rw [IntKind.wrap_i64]; omega
              have v3 : IntKind.i64.wrap (16 + up * 8 + more) = 16 + up * 8 + more := by rw [IntKind.wrap_i64]; omega
              have v4 : IntKind.i64.wrap (16 + up * 8 + more + 2) = 16 + up * 8 + more + 2 := by rw [IntKind.wrap_i64]; omega
              have v5 : IntKind.u8.wrap (16 + up * 8 + more + 2) = 16 + up * 8 + more + 2 := by rw [IntKind.wrap_u8]; omega
              have hc8 : Value.int .u8 (16 + up * 8 + more + 2) = bv (oneB up more) := by
                show _ = Value.int .u8 ((UInt8.ofNat (16 + up * 8 + more + 2).toNat).toNat : Int)
                have : ((UInt8.ofNat (16 + up * 8 + more + 2).toNat).toNat : Int) = 16 + up * 8 + more + 2 := by simp; omega
                rw [this]
              have HC8 := Lib.hid hc8
              have hBF := hES.buf
              have hsz := hES.size
              have hCL : cu1.length ≤ 900000 := by omega
              clear hc8
              obtain ⟨y5, hbk5, hoo5⟩ := hBF
              obtain ⟨A5, c5, hy5, _, _⟩ := hoo5.inV
              obtain ⟨n5, hn5⟩ : ∃ n5, n5 = (cu1).length := ⟨_, rfl⟩
              have hcl5 : n5 ≤ 900000 := by rw [hn5]; exact hCL
              rw [← hn5] at hy5
              subst hy5
              have HN5 := Lib.hid hn5
              clear hn5 hCL
              have hld5 := blk_at hbk5 0 _ rfl
              have hA5 := (Ext.refl wc).alloc (.cells #[.int .u8 (16 + up * 8 + more + 2)] 5)
              have hin5 : InB ((wc).alloc (.cells #[.int .u8 (16 + up * 8 + more + 2)] 5)) (.slice (some ⟨(wc).heap.size, 0, none⟩) 1 1) [oneB up more] := by rw [HC8.out]; exact ⟨_, 1, rfl, Nat.le_refl _, Rd_blk (heap_alloc_new _ _)⟩
              have hs5 := Nat.le_trans hsz hA5.size
              go_wp2_with (at_builtin; go_must (refine wpList_appendV elem_u8 (fun _ => rfl) rfl (.tmp 83) (.tmp 91) rfl base _ (cu1) rfl (hoo5.ext hA5) _ [oneB up more] rfl hin5 (by have := HN5.out; simp only [List.length_cons, List.length_nil]; omega) (by omega) hs5 (Hold.out ?_)))
              refine Hold.mk fun v9 w9 ho9 hg9 => ?_
              obtain ⟨hB9, hO9, hblk9⟩ := Buf.put (hA5.heap hbk5) (hoo5.ext hA5) ho9 hg9
              have hOO9 := (Only.of_ext (base := base) (g := g) hA5).trans hO9
              obtain ⟨V9, d9, hv9, _, _⟩ := ho9.inV
              obtain ⟨n9, hn9⟩ : ∃ n9, n9 = ((cu1) ++ [oneB up more]).length := ⟨_, rfl⟩
              rw [← hn9] at hv9
              subst hv9
              clear hn9
              have f9 := blk_free hblk9 0
              have q9 := blk_at hblk9 0 _ rfl
              have hlt9 := heap_lt hblk9
              clear ho9 hg9 hO9 hblk9 hbk5 hoo5 hA5 hin5 hs5 hld5 hsz
              have hES9 := hES.only hB9 hOO9
              clear hES hB9 hOO9 r0 r1 r2 r3 v1 v2 v3 v4 v5
              go_upto_region 32 with fail
              generalize w9.setCell ⟨g, 0, none⟩ (.slice V9 n9 d9) = wn at *
              go_wp2_with fail
              go_roundw
              case rel => exact ⟨k + 1, r, r.addr + 1, cu ++ encRow s r, by omega, by first | (with_reducible rfl) | go_num, HCUN, HLAN, HRS2, hcuN, by rw [← HEQ.out]; exact hES9.buf, hES9.tab, hES9.sta, hES9.ext, hES9.size⟩
              case measure => simp [intOf]; omega
            | false =>
              have hns : ¬ shortR up more r.mark := fun h => by have := hd.2 h; cases this
              have HEQ : Hid (((cu1 ++ upB up) ++ moreB more) ++ [if r.mark then 5 else 4] = cu ++ encRow s r) := Lib.hid (by rw [HEN.out, if_neg hns, HCU1.out]; simp only [List.append_assoc])
              clear hns
              clear hd HEN r0 r1 r2 r3
              go_upto_if 94 with fail
              go_cut [94] (fun _ wx => ES w base g g7 g8 g10 t (.slice (some ⟨b2, o2, none⟩) t.rows.length c2) r r (cu1 ++ upB up) wx)
              case first =>
                by_cases hc : 0 < up
                · have d : decide (0 < up) = true := by simp; omega
                  have HCX : Hid (upB up = [1] ++ uintB up) := Lib.hid (by unfold upB; rw [if_pos hc]; rfl)
                  have hBF := hES.buf
                  have hsz := hES.size
                  have hCL : cu1.length ≤ 900000 := by omega
                  obtain ⟨y5, hbk5, hoo5⟩ := hBF
                  obtain ⟨A5, c5, hy5, _, _⟩ := hoo5.inV
                  obtain ⟨n5, hn5⟩ : ∃ n5, n5 = (cu1).length := ⟨_, rfl⟩
                  have hcl5 : n5 ≤ 900000 := by rw [hn5]; exact hCL
                  rw [← hn5] at hy5
                  subst hy5
                  have HN5 := Lib.hid hn5
                  clear hn5 hCL
                  have hld5 := blk_at hbk5 0 _ rfl
                  have hA5 := (Ext.refl wc).alloc (.cells #[.int .u8 1] 5)
                  have hin5 : InB ((wc).alloc (.cells #[.int .u8 1] 5)) (.slice (some ⟨(wc).heap.size, 0, none⟩) 1 1) [1] := ⟨_, 1, rfl, Nat.le_refl _, Rd_blk (heap_alloc_new _ _)⟩
                  have hs5 := Nat.le_trans hsz hA5.size
                  go_wp2_with (at_builtin; go_must (refine wpList_appendV elem_u8 (fun _ => rfl) rfl (.tmp 95) (.tmp 96) rfl base _ (cu1) rfl (hoo5.ext hA5) _ [1] rfl hin5 (by have := HN5.out; simp only [List.length_cons, List.length_nil]; omega) (by omega) hs5 (Hold.out ?_)))
                  refine Hold.mk fun v9 w9 ho9 hg9 => ?_
                  obtain ⟨hB9, hO9, hblk9⟩ := Buf.put (hA5.heap hbk5) (hoo5.ext hA5) ho9 hg9
                  have hOO9 := (Only.of_ext (base := base) (g := g) hA5).trans hO9
                  obtain ⟨V9, d9, hv9, _, _⟩ := ho9.inV
                  obtain ⟨n9, hn9⟩ : ∃ n9, n9 = ((cu1) ++ [1]).length := ⟨_, rfl⟩
                  rw [← hn9] at hv9
                  subst hv9
                  clear hn9
                  have f9 := blk_free hblk9 0
                  have q9 := blk_at hblk9 0 _ rfl
                  have hlt9 := heap_lt hblk9
                  clear ho9 hg9 hO9 hblk9 hbk5 hoo5 hA5 hin5 hs5 hld5 hsz
                  have hES9 := hES.only hB9 hOO9
                  clear hES hB9 hOO9
                  go_upto_region 25 with fail
                  generalize w9.setCell ⟨g, 0, none⟩ (.slice V9 n9 d9) = wn at *
                  go_wp2_with fail
                  refine (unsigned_any base g _ up wn hES9.buf hES9.size (by rw [List.length_append]; simp only [List.length_cons, List.length_nil]; omega) (by omega)).mono ?_
                  rintro en w11 ⟨rv, rfl, hb11, ho11⟩
                  have hES11 := hES9.only hb11 ho11
                  rw [List.append_assoc, ← HCX.out] at hES11
                  clear hES9 hb11 ho11
                  go_wp2_with fail
                  go_meet
                  exact hES11
                · have d : decide (0 < up) = false := by simp; omega
                  have HCX : Hid (upB up = []) := Lib.hid (by unfold upB; rw [if_neg hc])
                  go_wp2_with fail
                  go_meet
                  rw [HCX.out, List.append_nil]
                  exact hES
              clear hES
              have hES := hcut
              clear hcut
              go_upto_if 102 with fail
              go_cut [102] (fun _ wx => ES w base g g7 g8 g10 t (.slice (some ⟨b2, o2, none⟩) t.rows.length c2) r r ((cu1 ++ upB up) ++ moreB more) wx)
              case first =>
                by_cases hc : more = 0
                case neg =>
                  have d : (more != 0) = true := by simp [hc]
                  have HCX : Hid (moreB more = [3] ++ leb (zig more)) := Lib.hid (by unfold moreB; rw [if_neg hc]; rfl)
                  clear hc
                  have hBF := hES.buf
                  have hsz := hES.size
                  obtain ⟨cc, hcc⟩ : ∃ c, c = cu1 ++ upB up := ⟨_, rfl⟩
                  rw [← hcc] at hBF hES
                  have hCL : cc.length ≤ 900000 := by rw [hcc]; omega
                  have hcl2 : cc.length ≤ 800100 := by rw [hcc]; omega
                  have HCC := Lib.hid hcc
                  clear hcc
                  obtain ⟨y5, hbk5, hoo5⟩ := hBF
                  obtain ⟨A5, c5, hy5, _, _⟩ := hoo5.inV
                  obtain ⟨n5, hn5⟩ : ∃ n5, n5 = (cc).length := ⟨_, rfl⟩
                  have hcl5 : n5 ≤ 900000 := by rw [hn5]; exact hCL
                  rw [← hn5] at hy5
                  subst hy5
                  have HN5 := Lib.hid hn5
                  clear hn5 hCL
                  have hld5 := blk_at hbk5 0 _ rfl
                  have hA5 := (Ext.refl wc).alloc (.cells #[.int .u8 3] 5)
                  have hin5 : InB ((wc).alloc (.cells #[.int .u8 3] 5)) (.slice (some ⟨(wc).heap.size, 0, none⟩) 1 1) [3] := ⟨_, 1, rfl, Nat.le_refl _, Rd_blk (heap_alloc_new _ _)⟩
                  have hs5 := Nat.le_trans hsz hA5.size
                  go_wp2_with (at_builtin; go_must (refine wpList_appendV elem_u8 (fun _ => rfl) rfl (.tmp 103) (.tmp 104) rfl base _ (cc) rfl (hoo5.ext hA5) _ [3] rfl hin5 (by have := HN5.out; simp only [List.length_cons, List.length_nil]; omega) (by omega) hs5 (Hold.out ?_)))
                  refine Hold.mk fun v9 w9 ho9 hg9 => ?_
                  obtain ⟨hB9, hO9, hblk9⟩ := Buf.put (hA5.heap hbk5) (hoo5.ext hA5) ho9 hg9
                  have hOO9 := (Only.of_ext (base := base) (g := g) hA5).trans hO9
                  obtain ⟨V9, d9, hv9, _, _⟩ := ho9.inV
                  obtain ⟨n9, hn9⟩ : ∃ n9, n9 = ((cc) ++ [3]).length := ⟨_, rfl⟩
                  rw [← hn9] at hv9
                  subst hv9
                  clear hn9
                  have f9 := blk_free hblk9 0
                  have q9 := blk_at hblk9 0 _ rfl
                  have hlt9 := heap_lt hblk9
                  clear ho9 hg9 hO9 hblk9 hbk5 hoo5 hA5 hin5 hs5 hld5 hsz
                  have hES9 := hES.only hB9 hOO9
                  clear hES hB9 hOO9
                  go_upto_region 28 with fail
                  generalize w9.setCell ⟨g, 0, none⟩ (.slice V9 n9 d9) = wn at *
                  go_wp2_with fail
                  refine (signed_any base g _ more wn hES9.buf hES9.size (by rw [List.length_append]; simp only [List.length_cons, List.length_nil]; omega) (by omega)).mono ?_
                  rintro en w11 ⟨rv, rfl, hb11, ho11⟩
                  have hES11 := hES9.only hb11 ho11
                  rw [List.append_assoc, ← HCX.out, HCC.out] at hES11
                  clear hES9 hb11 ho11
                  go_wp2_with fail
                  go_meet
                  exact hES11
                have d : (more != 0) = false := by simp [hc]
                have HCX : Hid (moreB more = []) := Lib.hid (by unfold moreB; rw [if_pos hc])
                clear hc
                go_wp2_with fail
                go_meet
                rw [HCX.out, List.append_nil]
                exact hES
              clear hES
              have hES := hcut
              clear hcut
              obtain ⟨r0, r1, r2, r3⟩ := blkR hES.row
              have hBF := hES.buf
              have hsz := hES.size
              obtain ⟨cc, hcc⟩ : ∃ c, c = (cu1 ++ upB up) ++ moreB more := ⟨_, rfl⟩
              rw [← hcc] at hBF hES HEQ
              have hCL : cc.length ≤ 900000 := by rw [hcc]; omega
              clear hcc
              by_cases hm : r.mark = true
              · rw [hm] at r3
                rw [if_pos hm] at HEQ
                clear hm
                obtain ⟨y5, hbk5, hoo5⟩ := hBF
                obtain ⟨A5, c5, hy5, _, _⟩ := hoo5.inV
                obtain ⟨n5, hn5⟩ : ∃ n5, n5 = (cc).length := ⟨_, rfl⟩
                have hcl5 : n5 ≤ 900000 := by rw [hn5]; exact hCL
                rw [← hn5] at hy5
                subst hy5
                have HN5 := Lib.hid hn5
                clear hn5 hCL
                have hld5 := blk_at hbk5 0 _ rfl
                have hA5 := (Ext.refl wc).alloc (.cells #[.int .u8 5] 5)
                have hin5 : InB ((wc).alloc (.cells #[.int .u8 5] 5)) (.slice (some ⟨(wc).heap.size, 0, none⟩) 1 1) [5] := ⟨_, 1, rfl, Nat.le_refl _, Rd_blk (heap_alloc_new _ _)⟩
                have hs5 := Nat.le_trans hsz hA5.size
                go_wp2_with (at_builtin; go_must (refine wpList_appendV elem_u8 (fun _ => rfl) rfl (.tmp 111) (.tmp 112) rfl base _ (cc) rfl (hoo5.ext hA5) _ [5] rfl hin5 (by have := HN5.out; simp only [List.length_cons, List.length_nil]; omega) (by omega) hs5 (Hold.out ?_)))
                refine Hold.mk fun v9 w9 ho9 hg9 => ?_
                obtain ⟨hB9, hO9, hblk9⟩ := Buf.put (hA5.heap hbk5) (hoo5.ext hA5) ho9 hg9
                have hOO9 := (Only.of_ext (base := base) (g := g) hA5).trans hO9
                obtain ⟨V9, d9, hv9, _, _⟩ := ho9.inV
                obtain ⟨n9, hn9⟩ : ∃ n9, n9 = ((cc) ++ [5]).length := ⟨_, rfl⟩
                rw [← hn9] at hv9
                subst hv9
                clear hn9
                have f9 := blk_free hblk9 0
                have q9 := blk_at hblk9 0 _ rfl
                have hlt9 := heap_lt hblk9
                clear ho9 hg9 hO9 hblk9 hbk5 hoo5 hA5 hin5 hs5 hld5 hsz
                have hES9 := hES.only hB9 hOO9
                clear hES hB9 hOO9 r0 r1 r2 r3
                go_upto_region 32 with fail
                generalize w9.setCell ⟨g, 0, none⟩ (.slice V9 n9 d9) = wn at *
                go_wp2_with fail
                go_roundw
                case rel => exact ⟨k + 1, r, r.addr + 1, cu ++ encRow s r, by omega, by first | (with_reducible rfl) | go_num, HCUN, HLAN, HRS2, hcuN, by rw [← HEQ.out]; exact hES9.buf, hES9.tab, hES9.sta, hES9.ext, hES9.size⟩
                case measure => simp [intOf]; omega
              · have hm' : r.mark = false := by simpa using hm
                rw [hm'] at r3
                rw [if_neg hm] at HEQ
                clear hm hm'
                obtain ⟨y5, hbk5, hoo5⟩ := hBF
                obtain ⟨A5, c5, hy5, _, _⟩ := hoo5.inV
                obtain ⟨n5, hn5⟩ : ∃ n5, n5 = (cc).length := ⟨_, rfl⟩
                have hcl5 : n5 ≤ 900000 := by rw [hn5]; exact hCL
                rw [← hn5] at hy5
                subst hy5
                have HN5 := Lib.hid hn5
                clear hn5 hCL
                have hld5 := blk_at hbk5 0 _ rfl
                have hA5 := (Ext.refl wc).alloc (.cells #[.int .u8 4] 5)
                have hin5 : InB ((wc).alloc (.cells #[.int .u8 4] 5)) (.slice (some ⟨(wc).heap.size, 0, none⟩) 1 1) [4] := ⟨_, 1, rfl, Nat.le_refl _, Rd_blk (heap_alloc_new _ _)⟩
                have hs5 := Nat.le_trans hsz hA5.size
                go_wp2_with (at_builtin; go_must (refine wpList_appendV elem_u8 (fun _ => rfl) rfl (.tmp 114) (.tmp 115) rfl base _ (cc) rfl (hoo5.ext hA5) _ [4] rfl hin5 (by have := HN5.out; simp only [List.length_cons, List.length_nil]; omega) (by omega) hs5 (Hold.out ?_)))
                refine Hold.mk fun v9 w9 ho9 hg9 => ?_
                obtain ⟨hB9, hO9, hblk9⟩ := Buf.put (hA5.heap hbk5) (hoo5.ext hA5) ho9 hg9
                have hOO9 := (Only.of_ext (base := base) (g := g) hA5).trans hO9
                obtain ⟨V9, d9, hv9, _, _⟩ := ho9.inV
                obtain ⟨n9, hn9⟩ : ∃ n9, n9 = ((cc) ++ [4]).length := ⟨_, rfl⟩
                rw [← hn9] at hv9
                subst hv9
                clear hn9
                have f9 := blk_free hblk9 0
                have q9 := blk_at hblk9 0 _ rfl
                have hlt9 := heap_lt hblk9
                clear ho9 hg9 hO9 hblk9 hbk5 hoo5 hA5 hin5 hs5 hld5 hsz
                have hES9 := hES.only hB9 hOO9
                clear hES hB9 hOO9 r0 r1 r2 r3
                go_upto_region 32 with fail
                generalize w9.setCell ⟨g, 0, none⟩ (.slice V9 n9 d9) = wn at *
                go_wp2_with fail
                go_roundw
                case rel => exact ⟨k + 1, r, r.addr + 1, cu ++ encRow s r, by omega, by first | (with_reducible rfl) | go_num, HCUN, HLAN, HRS2, hcuN, by rw [← HEQ.out]; exact hES9.buf, hES9.tab, hES9.sta, hES9.ext, hES9.size⟩
                case measure => simp [intOf]; omega
          · have hki : ¬ (k : Int) < (t.rows.length : Int) := by omega
            have hkk : k = t.rows.length := by omega
            have HCU2 : Hid (cu ++ [0] = uintB l.length ++ (l.take (j + 1)).flatMap encTab) := Lib.hid (by
              rw [HTK.out, List.flatMap_append, ← List.append_assoc, ← HC.out]
              simp only [List.flatMap_cons, List.flatMap_nil, List.append_nil]
              rw [encTab_split, HCU.out, HC4.out, hkk, List.take_of_length_le (Nat.le_refl _)])
            have hBF := hb
            have hsz := hs
            have hCL : cu.length ≤ 900000 := by omega
            obtain ⟨y5, hbk5, hoo5⟩ := hBF
            obtain ⟨A5, c5, hy5, _, _⟩ := hoo5.inV
            obtain ⟨n5, hn5⟩ : ∃ n5, n5 = (cu).length := ⟨_, rfl⟩
            have hcl5 : n5 ≤ 900000 := by rw [hn5]; exact hCL
            rw [← hn5] at hy5
            subst hy5
            have HN5 := Lib.hid hn5
            clear hn5 hCL
            have hld5 := blk_at hbk5 0 _ rfl
            have hA5 := (Ext.refl wz).alloc (.cells #[.int .u8 0] 5)
            have hin5 : InB ((wz).alloc (.cells #[.int .u8 0] 5)) (.slice (some ⟨(wz).heap.size, 0, none⟩) 1 1) [0] := ⟨_, 1, rfl, Nat.le_refl _, Rd_blk (heap_alloc_new _ _)⟩
            have hs5 := Nat.le_trans hsz hA5.size
            go_wp2_with (at_builtin; go_must (refine wpList_appendV elem_u8 (fun _ => rfl) rfl (.tmp 118) (.tmp 119) rfl base _ (cu) rfl (hoo5.ext hA5) _ [0] rfl hin5 (by have := HN5.out; simp only [List.length_cons, List.length_nil]; omega) (by omega) hs5 (Hold.out ?_)))
            refine Hold.mk fun v9 w9 ho9 hg9 => ?_
            obtain ⟨hB9, hO9, hblk9⟩ := Buf.put (hA5.heap hbk5) (hoo5.ext hA5) ho9 hg9
            have hOO9 := (Only.of_ext (base := base) (g := g) hA5).trans hO9
            obtain ⟨V9, d9, hv9, _, _⟩ := ho9.inV
            obtain ⟨n9, hn9⟩ : ∃ n9, n9 = ((cu) ++ [0]).length := ⟨_, rfl⟩
            rw [← hn9] at hv9
            subst hv9
            clear hn9
            have f9 := blk_free hblk9 0
            have q9 := blk_at hblk9 0 _ rfl
            have hlt9 := heap_lt hblk9
            clear ho9 hg9 hO9 hblk9 hbk5 hoo5 hA5 hin5 hs5 hld5 hsz
            have hXn := hOO9.ext hX hwb hwg
            have hsn := Nat.le_trans hs hOO9.size
            have HN2 : Hid (N + t.rows.length = rowsN (l.take (j + 1))) := Lib.hid (by rw [HSU.out, ← HN.out])
            have hcn : (cu ++ [0]).length ≤ 10 + 40 * (j + 1) + 40 * (N + t.rows.length) := by rw [List.length_append]; simp only [List.length_cons, List.length_nil]; omega
            clear hOO9 hb hX hs hG7 hG8 HCU HLA HRS hcu hkk
            go_upto_region 34 with fail
            generalize w9.setCell ⟨g, 0, none⟩ (.slice V9 n9 d9) = wn at *
            go_wp2_with fail
            go_roundw
            case rel => exact ⟨j + 1, N + t.rows.length, t.hi, cu ++ [0], by omega, by first | (with_reducible rfl) | go_num, HCU2, hcn, by omega, HN2, by omega, HON, hB9, hXn, hsn⟩
            case measure => simp [intOf]; omega
      · have hij : ¬ (j : Int) < (l.length : Int) := by omega
        have HCE : Hid (cur = encTabs l) := Lib.hid (by rw [HC.out, List.take_of_length_le (by omega)]; rfl)
        obtain ⟨y5, hbk5, hoo5⟩ := hBuf
        obtain ⟨A5, c5, hy5, _, _⟩ := hoo5.inV
        obtain ⟨n5, hn5⟩ : ∃ n5, n5 = cur.length := ⟨_, rfl⟩
        rw [← hn5] at hy5
        subst hy5
        have HN5 := Lib.hid hn5
        have hld5 := blk_at hbk5 0 _ rfl
        clear hn5 hbk5 HC HN HO
        by_cases h6 : 60000 < n5
        · have d6 : decide ((60000 : Int) < (n5 : Int)) = true := by simp; omega
          have HE : Hid (EncL l = []) := Lib.hid (by unfold EncL; rw [if_pos HR.out, if_neg (by rw [← HCE.out, ← HN5.out]; omega)])
          go_wp2_with fail
          refine bodyPost_ret (by simp [results, Try.results30, go_sem]; rfl) rfl ?_
          exact ⟨_, rfl, by rw [HE.out]; exact OwnV.nil _, hX⟩
        · have d6 : decide ((60000 : Int) < (n5 : Int)) = false := by simp; omega
          have HE : Hid (EncL l = cur) := Lib.hid (by unfold EncL; rw [if_pos HR.out, if_pos (by rw [← HCE.out, ← HN5.out]; omega)]; exact HCE.out.symm)
          go_wp2_with fail
          refine bodyPost_ret (by simp [results, Try.results30, go_sem]; rfl) rfl ?_
          exact ⟨_, rfl, by rw [HE.out]; exact hoo5.low hwb, hX⟩
end Go.Proofs.Ytokmbdeafjmcjaa
