/- What the specification writes: the walk of ref.Encode. -/
import Derived.Test.YtokmbdeafjmcjaaLinX
import Derived.Test.YtokmbdeafjmcjaaLinW
namespace Go.Proofs.Ytokmbdeafjmcjaa
open Go.RowKit
set_option linter.unusedVariables false

theorem encRows_len {hi : Int} (hh : hi ≤ 1048576) : ∀ (l : List LRow) {s : LRow} {nx : Int}, RowSt hi s nx l → (encRows s l).length ≤ 40 * l.length
  | [], _, _, _ => by simp [encRows]
  | r :: l, s, nx, h => by
    obtain ⟨h1, h2, h3⟩ := h.next hh
    have a := encRow_len h.1 h1
    have b := encRows_len hh l h3
    simp only [encRows, List.length_append, List.length_cons]
    omega
set_option maxHeartbeats 40000000 in
set_option maxRecDepth 100000 in
theorem refEncode18_any (l : List LTab) (v : Value) (w : World) (hv : LTabs w v l) (hI : ∀ t ∈ l, t.I) (hl : l.length ≤ 9223372036854775807) : Calls Try.prog 31 #[v] w (EncPost (EncL l) w) := by
  obtain ⟨A, c, rfl⟩ := hv.form
  have HV := Lib.hid hv
  have HI := Lib.hid hI
  clear hv hI
  go_enter Try.func31, Try.ntmps31
  go_wp2_with fail
  refine (refRight18_any l _ w HV.out HI.out hl).mono ?_
  rintro en w1 ⟨r, rfl, hr, hx1⟩
  cases r with
  | false =>
    have HN : Hid (EncL l = []) := Lib.hid (by unfold EncL; rw [if_neg (fun h => by have := hr.2 h; cases this)])
    clear hr
    go_wp2_with fail
    refine bodyPost_ret (by simp [results, Try.results31, go_sem]; rfl) rfl ?_
    exact ⟨_, rfl, by rw [HN.out]; exact OwnV.nil _, hx1⟩
  | true =>
    have HR := Lib.hid (hr.1 rfl)
    clear hr
    have h8 := HR.out.1
    go_wp2_with fail
    refine (refAppendUint_any (.slice none 0 0) [] (l.length : Int) w1 (InV.nil w1) (by simp) (by omega)).mono ?_
    rintro en w2 ⟨y2, rfl, ho2, hx2⟩
    have hX2 := hx1.trans hx2
    have hO2 : OwnV bv 5 w.heap.size w2 y2 (uintB l.length) := by simpa using ho2.toV.low hx1.size
    have hll := uintB_len (v := (l.length : Int)) (by omega)
    clear ho2 hx1 hx2
    go_wp2_with fail
    go_loopw [14, 3] (fun i v wr => ∃ (j N : Nat) (e : Int) (cur : List UInt8), j ≤ l.length ∧ i = .int .i64 (j : Int) ∧ Hid (cur = uintB l.length ++ (l.take j).flatMap encTab) ∧ cur.length ≤ 10 + 40 * j + 40 * N ∧ N ≤ 8000 ∧ Hid (N = rowsN (l.take j)) ∧ 0 ≤ e ∧ Hid (okTabs e (l.drop j)) ∧ OwnV bv 5 w.heap.size wr v cur ∧ Ext w wr) (fun i _ _ => l.length - (intOf i).toNat)
    case atStart => exact ⟨0, 0, 0, uintB l.length, by omega, rfl, Lib.hid (by simp), by omega, by omega, Lib.hid (by simp [rowsN]), by omega, Lib.hid (by rw [List.drop_zero]; exact HR.out.2.1), hO2, hX2⟩
    case round =>
      clear hO2 hX2 hll
      obtain ⟨j, N, e, cur, hj, rfl, HC, hcl, hN, HN, he, HO, hO, hX⟩ := hrel
      obtain ⟨wo, rfl⟩ : ∃ wo : World, wo = wr := ⟨_, rfl⟩
      by_cases hlt : j < l.length
      · have hij : (j : Int) < (l.length : Int) := by omega
        obtain ⟨bb, oo, y, rfl, hra0, hrw⟩ := HV.out.at_ hlt
        have hra : wo.rangeAt bb (oo + j * 3) (ltabCells (l[j], y)) := fun i u hu => hX.cell (hra0 i u hu)
        have hrows := hrw.ext hX
        clear hra0
        have HD := Lib.hid (List.drop_eq_getElem_cons hlt)
        have HSU := Lib.hid (rowsN_succ hlt)
        have HTK := Lib.hid (List.take_succ_eq_append_getElem hlt)
        generalize l[j] = t at *
        obtain ⟨hok, hoR, hoN⟩ : okTab e t ∧ okRows t.lo t.hi t.rows ∧ okTabs t.hi (l.drop (j + 1)) := by
          have h := HO.out
          rw [HD.out] at h
          exact h
        have HOR := Lib.hid hoR
        have HON := Lib.hid hoN
        unfold okTab at hok
        have hrl8 : N + t.rows.length ≤ 8000 := by
          have h1 := HR.out.2.2
          have h2 := rowsN_take_le l (j + 1)
          rw [HSU.out, ← HN.out] at h2
          omega
        have hel := encRows_len hok.2.2.2 t.rows (s := row0 t.lo) (nx := t.lo) ⟨small0 (by omega), by simp [row0], hoR⟩
        clear hoR hoN HO
        obtain ⟨A2, c2, rfl, _, _⟩ := id hrows
        have hld := ltab_load hra
        obtain ⟨hst, hG, hXG⟩ := box_new (P := Try.prog) wo 46 #[.int .i64 0, .int .i64 0, .slice none 0 0] #[.int .i64 t.lo, .int .i64 t.hi, .slice A2 t.rows.length c2] lt_size rfl (by simp [Value.oneCell'])
        go_upto_region 7 with first | refine wpList_load_run rfl 46 (.tmp 16) rfl _ _ rfl hld ?_ | refine wpList_store_run rfl 46 (.tmp 5) (.tmp 17) rfl _ _ _ rfl rfl hst ?_
        obtain ⟨g5, hg5⟩ : ∃ g, g = wo.heap.size := ⟨_, rfl⟩
        rw [← hg5] at hG hXG ⊢
        generalize (wo.alloc (.cells #[.int .i64 0, .int .i64 0, .slice none 0 0] 46)).setRow g5 #[.int .i64 t.lo, .int .i64 t.hi, .slice A2 t.rows.length c2] = wg at *
        dsimp only [Act.put]
        obtain ⟨r0, r1, r2⟩ := blkT hG
        have hXX := hX.trans hXG
        have hO1 := hO.ext hXG
        clear hst hld hra hXG hX hg5 hO
        have hl1 := uintB_len (v := t.lo) (by omega)
        have hl2 := uintB_len (v := t.hi) (by omega)
        go_wp2_with fail
        refine (refAppendUint_any u3 cur t.lo wg hO1.inV (by omega) (by omega)).mono ?_
        rintro en w3 ⟨y3, rfl, ho3, hx3⟩
        have hG3 := hx3.heap hG
        have hX3 := hXX.trans hx3
        have hO3 := ho3.toV.low hXX.size
        clear r0 r1 r2 hXX hO1 ho3 hx3 hG
        obtain ⟨r0, r1, r2⟩ := blkT hG3
        go_wp2_with fail
        refine (refAppendUint_any y3 _ t.hi w3 hO3.inV (by rw [List.length_append]; omega) (by omega)).mono ?_
        rintro en w4 ⟨y4, rfl, ho4, hx4⟩
        have hG4 := hx4.heap hG3
        have hX4 := hX3.trans hx4
        have hO4 := ho4.toV.low hX3.size
        obtain ⟨cur4, hc4⟩ : ∃ c, c = (cur ++ uintB t.lo) ++ uintB t.hi := ⟨_, rfl⟩
        have hcl4 : cur4.length ≤ 30 + 40 * j + 40 * N := by rw [hc4, List.length_append, List.length_append]; omega
        rw [← hc4] at hO4
        have HC4 := Lib.hid hc4
        have hrw4 := hrw.ext hX4
        clear hc4 r0 r1 r2 hX3 hO3 ho4 hx4 hG3
        have hldt := run_loadAt_blk (P := Try.prog) w4 g5 46 46 _ (0, 0) _ hG4 Try.underlying46 rfl lt_size
        go_wp2_with first | refine wpList_load_run rfl 46 (.tmp 5) rfl _ _ rfl hldt ?_
        clear hldt
        refine (program_any t _ w4 hrw4 ⟨by omega, hok.2.2.1, hok.2.2.2⟩ HOR.out (by omega)).mono ?_
        rintro en w5 ⟨y5, rfl, ho5, hx5⟩
        obtain ⟨m, hm⟩ : ∃ m, m = encRows (row0 t.lo) t.rows ++ [0] := ⟨_, rfl⟩
        have hml : m.length ≤ 40 * t.rows.length + 1 := by rw [hm, List.length_append]; simp only [List.length_cons, List.length_nil]; omega
        rw [← hm] at ho5
        have HM := Lib.hid hm
        clear hm hel
        have hin5 : InB w5 y5 m := ho5.toV.inV
        have hX5 := hX4.trans hx5
        have hO5 := hO4.ext hx5
        have hsz5 := hX5.size
        clear ho5 hO4 hX4 hx5 hG4 hrw4
        go_wp2_with (at_builtin; go_must (refine wpList_appendV elem_u8 (fun _ => rfl) rfl (.tmp 26) (.tmp 28) rfl w.heap.size _ cur4 rfl hO5 _ m rfl hin5 (by omega) (by omega) hsz5 (Hold.out ?_)))
        refine Hold.mk fun v9 w9 ho9 hg9 => ?_
        have hX9 := hg9.ext hX5 hO5.ge
        have HCN : Hid (cur4 ++ m = uintB l.length ++ (l.take (j + 1)).flatMap encTab) := Lib.hid (by
          rw [HTK.out, List.flatMap_append, ← List.append_assoc, ← HC.out]
          simp only [List.flatMap_cons, List.flatMap_nil, List.append_nil]
          rw [HM.out, HC4.out, encTab_split, ← List.append_assoc])
        have HN2 : Hid (N + t.rows.length = rowsN (l.take (j + 1))) := Lib.hid (by rw [HSU.out, ← HN.out])
        have hcn : (cur4 ++ m).length ≤ 10 + 40 * (j + 1) + 40 * (N + t.rows.length) := by rw [List.length_append]; omega
        clear hg9 hin5 hO5 hX5 hsz5
        go_wp2_with fail
        go_roundw
        case rel => exact ⟨j + 1, N + t.rows.length, t.hi, cur4 ++ m, by omega, by first | (with_reducible rfl) | go_num, HCN, hcn, by omega, HN2, by omega, HON, ho9, hX9⟩
        case measure => simp [intOf]; omega
      · have hij : ¬ (j : Int) < (l.length : Int) := by omega
        have HCE : Hid (cur = encTabs l) := Lib.hid (by rw [HC.out, List.take_of_length_le (by omega)]; rfl)
        obtain ⟨A5, c5, hy5, _, _⟩ := hO.inV
        obtain ⟨n5, hn5⟩ : ∃ n5, n5 = cur.length := ⟨_, rfl⟩
        rw [← hn5] at hy5
        subst hy5
        have HN5 := Lib.hid hn5
        clear hn5 HC HN HO
        by_cases h6 : 60000 < n5
        · have d6 : decide ((60000 : Int) < (n5 : Int)) = true := by simp; omega
          have HE : Hid (EncL l = []) := Lib.hid (by unfold EncL; rw [if_pos HR.out, if_neg (by rw [← HCE.out, ← HN5.out]; omega)])
          go_wp2_with fail
          refine bodyPost_ret (by simp [results, Try.results31, go_sem]; rfl) rfl ?_
          exact ⟨_, rfl, by rw [HE.out]; exact OwnV.nil _, hX⟩
        · have d6 : decide ((60000 : Int) < (n5 : Int)) = false := by simp; omega
          have HE : Hid (EncL l = cur) := Lib.hid (by unfold EncL; rw [if_pos HR.out, if_pos (by rw [← HCE.out, ← HN5.out]; omega)]; exact HCE.out.symm)
          go_wp2_with fail
          refine bodyPost_ret (by simp [results, Try.results31, go_sem]; rfl) rfl ?_
          exact ⟨_, rfl, by rw [HE.out]; exact hO, hX⟩
end Go.Proofs.Ytokmbdeafjmcjaa
