/- NfaTakes. -/
import Derived.Test.YtiabmdboacpmcaaQp
import Derived.Test.YtiabmdboacpmcaaQo
namespace Go.Proofs.Ytiabmdboacpmcaa
open Go Go.RowKit Go.Sort
set_option maxHeartbeats 2000000

theorem flip_drop {U : List Sy} {r : Nat} {a : Sy} (h : U[r]? = some a) : flipW (U.drop (r + 1)) ++ [flipS a] = flipW (U.drop r) := by
  have hr := (List.getElem?_eq_some_iff.1 h)
  obtain ⟨h1, h2⟩ := hr
  rw [List.drop_eq_getElem_cons h1, h2]
  simp [flipW]
set_option maxRecDepth 100000 in
theorem takes_law (v vl : Value) (L : List Nd) (B : List Nat) (w : World) (hv : RdNd w v L) (hb : RdB w vl B) : Calls Try.prog 8 #[v, vl] w fun e w' => e = .returned (.bool true) ∧ Ext w w' := by
  have HV := Lib.hid hv
  have HBY := Lib.hid hb
  clear hv hb
  go_enter Try.func8, Try.ntmps8
  go_wp2_with fail
  refine (awake_any _).mono ?_
  rintro e w1 ⟨rfl, hE1⟩
  have HE1 := Lib.hid hE1
  clear hE1
  go_wp2_with fail
  refine (fix_any v L _ (rdNd_ext HV.out HE1.out)).mono ?_
  rintro e w2 ⟨L', v', rfl, hr, hF, hl, hE2⟩
  have HR := Lib.hid hr
  have HF := Lib.hid hF
  have HE2 := Lib.hid (ext_trans HE1.out hE2)
  have hl8 : L'.length ≤ 8 := by omega
  clear hr hF hE2 hl
  go_wp2_with fail
  refine (tree_fix 8 (by decide) (by decide) v' L' _ HR.out HF.out hl8).mono ?_
  rintro e w3 ⟨rb, n, t, k, z, A, q, c, rfl, hn, hfit, hlst, hpv, hE3⟩
  obtain ⟨hfb, hch, -⟩ := fit_chk hfit (by decide)
  have hsz : sizeT t ≤ 300 := by have := hfit.2.1; omega
  have HFO := Lib.hid (fit_form hfit)
  have HFB := Lib.hid hfb
  have HLS := Lib.hid hlst
  have HPV := Lib.hid hpv
  have HE3 := Lib.hid (ext_trans HE2.out hE3)
  clear hfit hlst hpv hE3 hfb hl8
  go_wp2_with fail
  have hE4 := ext_alloc (ext_refl w3) (.cells #[.int .i64 k, .int .i64 z, .slice A q c] 30)
  have hB4 := heap_alloc_new w3 (.cells #[.int .i64 k, .int .i64 z, .slice A q c] 30)
  obtain ⟨w4, hw4⟩ : ∃ w4, w4 = w3.alloc (.cells #[.int .i64 k, .int .i64 z, .slice A q c] 30) := ⟨_, rfl⟩
  obtain ⟨p6, hp6⟩ : ∃ p6, p6 = w3.heap.size := ⟨_, rfl⟩
  rw [← hw4] at hE4 hB4 ⊢
  rw [← hp6] at hB4 ⊢
  have HB4 := Lib.hid hB4
  have HE4 := Lib.hid (ext_trans HE3.out hE4)
  have HL4 := Lib.hid (lst_ext HLS.out hE4)
  have HP4 := Lib.hid (PV_ext HPV.out hE4)
  clear hw4 hp6 hE4 hB4 HLS HPV HE3
  by_cases hz : chk t = 0
  · refine (compile_yes t _ w4 HP4.out hz).mono ?_
    rintro e w5 ⟨p, rfl, hM5, hE5⟩
    have HM5 := Lib.hid hM5
    have HE5 := Lib.hid hE5
    have HZ := Lib.hid hz
    clear hM5 hE5 hz hch
    go_wp2_with fail
    refine (rcheck_any t rb n 0 _ (by omega) hn (lst_ext HL4.out HE5.out)).mono ?_
    rintro e w6 ⟨rfl, hE6⟩
    rw [HZ.out]
    have HE6 := Lib.hid (ext_trans HE5.out hE6)
    have HM6 := Lib.hid (machT_ext HM5.out hE6)
    clear hE6 HM5 HE5
    go_wp2_with fail
    refine (word_any vl B _ (rdB_ext HBY.out (ext_trans HE4.out HE6.out))).mono ?_
    rintro e w7 ⟨U, va, vb, rfl, hza, hzb, hU5, -, hE7⟩
    have HZA := Lib.hid (rdY_rowZ hza.1)
    obtain ⟨Ab, cb, rfl⟩ := rowE_form hzb.1
    have HZB := Lib.hid hzb
    have HE7 := Lib.hid (ext_trans HE6.out hE7)
    have HM7 := Lib.hid (machT_ext HM6.out hE7)
    clear hza hzb hE7 HM6 HE6
    go_wp2_with fail
    refine (rtakes_any t rb n 0 va U _ (by omega) (by omega) HFB.out hn (lst_ext HL4.out HE7.out) HZA.out).mono ?_
    rintro e w8 ⟨rfl, hE8⟩
    have HM8 := Lib.hid (machT_ext HM7.out hE8)
    have HB8 := Lib.hid (rowF_ext _ _ _ hE8 HZB.out)
    have HE8 := Lib.hid (ext_trans HE7.out hE8)
    obtain ⟨yes, hyes⟩ : ∃ b, b = tk t U := ⟨_, rfl⟩
    rw [← hyes]
    have HY := Lib.hid hyes
    clear hE8 HM7 HZB HE7 hyes HZA
    go_wp2_with fail
    refine (mtakes_any _ _ p t _ U HM8.out (rdY_row HB8.out.1) (by omega)).mono ?_
    rintro e w9 ⟨rfl, hE9⟩
    rw [← HY.out]
    have hbs := bne_self yes
    have HB9 := Lib.hid (rowF_ext _ _ _ hE9 HB8.out)
    have HE9 := Lib.hid (ext_trans HE8.out hE9)
    have h49 := (ext_block HE9.out (block_lt HB4.out)).trans HB4.out
    have c0 : w9.cell? ⟨p6, 0, none⟩ = some (.int .i64 k) := block_cell h49 0
    have c1 : w9.cell? ⟨p6, 1, none⟩ = some (.int .i64 z) := block_cell h49 1
    have c2 : w9.cell? ⟨p6, 2, none⟩ = some (.slice A q c) := block_cell h49 2
    have l9 := block_lt h49
    clear hE9 HM8 HB8 HE8 h49
    go_wp2_with fail
    refine (empty_any t _ _ (by omega) (PV_ext HP4.out HE9.out)).mono ?_
    rintro e w10 ⟨rfl, hE10⟩
    rw [empty_tk t HFO.out]
    have HB10 := Lib.hid (rowF_ext _ _ _ hE10 HB9.out)
    have HE10 := Lib.hid (ext_trans HE9.out hE10)
    clear hE10 HB9 HE9 c0 c1 c2 l9
    go_wp2_with fail
    refine (rtakes_any t rb n 0 _ [] _ (by omega) (by simp) HFB.out hn (lst_ext HL4.out HE10.out) (rdY_nil _)).mono ?_
    rintro e w11 ⟨rfl, hE11⟩
    have hbt := bne_self (tk t [])
    have HB11 := Lib.hid (rowF_ext _ _ _ hE11 HB10.out)
    have HE11 := Lib.hid (ext_trans HE10.out hE11)
    have hbl11 : ∀ b, (Value.slice Ab U.length cb).ownBlock = some b → b < w11.heap.size := fun b hb => (rowE_block HB11.out.1 hb).1
    have HBL11 := Lib.hid hbl11
    clear hE11 HB10 HE10 hbl11
    go_wp2
    go_loopw [13, 12] (fun x y wr => ∃ (r : Nat) (T : Option Addr) (cT : Nat), r ≤ U.length ∧ x = .int .i64 ((r : Int) - 1) ∧ y = .slice T (U.length - r) cT ∧ rowF elY w11.heap.size (flipW (U.drop r)) (.slice T (U.length - r) cT) wr ∧ Ext w11 wr) (fun x _ _ => (intOf x + 1).toNat)
    case atStart => exact ⟨U.length, none, 0, Nat.le_refl _, rfl, by simp, by rw [List.drop_length, Nat.sub_self]; exact rowF_nil _ _, ext_refl _⟩
    case round =>
      rename World => wr
      obtain ⟨r, T, cT, hr, rfl, rfl, hrow, hE⟩ := hrel
      have HROW := Lib.hid hrow
      have HE := Lib.hid hE
      clear hrow hE
      cases r with
      | zero =>
        have hfl : flipW (U.drop 0) = flipW U := by rw [List.drop_zero]
        rw [hfl] at HROW
        have h4r := (ext_block (ext_trans HE11.out HE.out) (block_lt HB4.out)).trans HB4.out
        have c0 : wr.cell? ⟨p6, 0, none⟩ = some (.int .i64 k) := block_cell h4r 0
        have c1 : wr.cell? ⟨p6, 1, none⟩ = some (.int .i64 z) := block_cell h4r 1
        have c2 : wr.cell? ⟨p6, 2, none⟩ = some (.slice A q c) := block_cell h4r 2
        have l6 := block_lt h4r
        clear hfl h4r
        go_wp2_with fail
        refine (turned_any t _ _ (by omega) (PV_ext HP4.out (ext_trans HE11.out HE.out))).mono ?_
        rintro e x1 ⟨k1, n1, A1, m1, d1, rfl, hp1, hX1⟩
        have HP1 := Lib.hid hp1
        have HX1 := Lib.hid hX1
        clear hp1 hX1 c0 c1 c2 l6
        go_wp2_with fail
        refine (compile_yes (turnT t) _ _ HP1.out (by rw [turn_chk]; exact HZ.out)).mono ?_
        rintro e x2 ⟨p', rfl, hM2, hX2⟩
        have HM2 := Lib.hid hM2
        have HX2 := Lib.hid (ext_trans HX1.out hX2)
        clear hM2 hX2
        go_wp2_with fail
        have hfl : (flipW U).length = U.length := by simp [flipW]
        refine (mtakes_any _ _ p' (turnT t) _ (flipW U) HM2.out (rdY_row (rowF_ext _ _ _ HX2.out HROW.out).1) (by rw [hfl]; omega)).mono ?_
        rintro e x3 ⟨rfl, hX3⟩
        have htk : tk (turnT t) (flipW U) = yes := by rw [HY.out, Bool.eq_iff_iff, tk_iff, tk_iff, turn_words]
        rw [htk]
        have hbb := beq_self yes
        have HX3 := Lib.hid (ext_trans HX2.out hX3)
        clear hX3 htk hfl
        go_wp2
        refine bodyPost_ret (results_tmp rfl _ _ _) rfl ?_
        exact ⟨rfl, ext_trans HE4.out (ext_trans HE11.out (ext_trans HE.out HX3.out))⟩
      | succ r =>
        have hcast : (((r + 1 : Nat) : Int) - 1) = (r : Int) := by omega
        rw [hcast]
        have hr0 : (0 : Int) ≤ (r : Int) := by omega
        have hru : (r : Int) < (U.length : Int) := by omega
        obtain ⟨⟨s1, s2⟩, ha⟩ : ∃ a, U[r]? = some a := ⟨_, List.getElem?_eq_getElem (by omega)⟩
        obtain ⟨gb, rfl, lgb⟩ := rowE_some HB11.out.1 (fun e => by rw [e] at ha; simp at ha)
        have hrw := (rowF_ext _ _ _ HE.out HB11.out).1
        have z0 := rowE_cell hrw ha (j := 0) (u := .int .i64 s1) rfl
        have z1 := rowE_cell hrw ha (j := 1) (u := .bool s2) rfl
        have hgb : gb < w11.heap.size := HBL11.out gb rfl
        have nfb : ¬ (Value.slice T (U.length - (r + 1)) cT).ownBlock = some gb := fun e => by have := HROW.out.2 gb e; omega
        have y0 : ∀ pw : UW (fun b => (Value.slice T (U.length - (r + 1)) cT).ownBlock = some b) wr, pw.val.cell? ⟨gb, r * 2, none⟩ = some (.int .i64 s1) := uw_cell z0 nfb
        have y1 : ∀ pw : UW (fun b => (Value.slice T (U.length - (r + 1)) cT).ownBlock = some b) wr, pw.val.cell? ⟨gb, r * 2 + 1, none⟩ = some (.bool s2) := uw_cell z1 nfb
        have HA := Lib.hid ha
        obtain ⟨m, hm⟩ : ∃ m, m = U.length - (r + 1) := ⟨_, rfl⟩
        have hm1 : U.length - r = m + 1 := by omega
        rw [← hm] at y0 y1 HROW nfb ⊢
        have HM1 := Lib.hid hm1
        clear ha hrw z0 z1 hcast hm hm1
        go_wp2_with fail
        refine wp_region_upd (fp := fun b => (Value.slice T m cT).ownBlock = some b) [] [0, 1, 2, 3, 4, 5, 6, 7, 8, 9, 10, 11, 12] [(13, oneF elY wr.heap.size (s1, !s2))] 14 (fun v w' => rowF elY w11.heap.size (flipW (U.drop r)) v w') [15] [13, 14] rfl (by kernel_rfl) (by kernel_rfl) (by kernel_rfl) (fun _ _ d _ _ h => by cases d <;> exact h) ?_
        refine wpPre_nil ?_
        repeat (refine wpU_step rfl (fun K hK => ?_); (try simp only [Oper.quietAt, Oper.quietUpon]); go_simp; (refine hK _ ?_; clear hK K))
        refine wpU_nil ?_
        refine wpGen_step rfl rfl oneF_ext (fun w6 hE6 hS6 => ?_) (fun v0 => ?_)
        · simp only [runsAt]
          go_simp
          exact ⟨ext_alloc (ext_refl _) _, _, rfl, ext_size hE6, heap_alloc_new w6 _⟩
        refine wpGen_nil ?_
        refine ⟨⟨_, rfl, rfl, fun v a b hE hR => rowF_ext _ _ _ hE hR⟩, fun w6 hE6 hS6 o ho => ?_, fun o ho v w6 hU6 hR6 => ?_⟩
        · cases ho
          have hone : oneF elY wr.heap.size (s1, !s2) v0 w6 := hS6 _ (List.mem_cons_self ..)
          refine runs_append (sv := .slice T m cT) (xv := v0) (.tmp 68) (.tmp 81) rfl rfl rfl ?_
          obtain ⟨v', w', hrun, hr', hg, hat⟩ := append_at tpY 43 w11.heap.size (.slice T m cT) v0 (flipW (U.drop (r + 1))) [(s1, !s2)] w6 (rowF_ext _ _ _ hE6 HROW.out) (srcOf_one hone) (by simp [flipW]; omega) (Nat.le_trans (ext_size HE.out) (ext_size hE6))
          refine ⟨v', w', hrun, upd_grown hg, ?_⟩
          have := flip_drop HA.out
          rw [← this]
          exact hr'
        · cases ho
          have hr6 : rowF elY w11.heap.size (flipW (U.drop r)) v w6 := hR6
          obtain ⟨A6, c6, hv6⟩ := rowE_form hr6.1
          have hl6 : (flipW (U.drop r)).length = m + 1 := by simp [flipW]; exact HM1.out
          rw [hl6] at hv6
          subst hv6
          have HR6 := Lib.hid hr6
          have HX6 := Lib.hid (ext_updL HE.out hU6 (fun b hb => HROW.out.2 b hb))
          clear y0 y1 hr6 hR6 hU6 hl6
          refine wpSeq_of_list [15] [_] _ _ rfl ?_
          go_wp2
          go_roundw
          case rel => exact ⟨r, A6, c6, by omega, by go_num, by rw [HM1.out], by rw [HM1.out]; exact HR6.out, HX6.out⟩
          case measure => simp [intOf]
  · have hc13 : chk t = 13 := by rcases hch with h | h; exact absurd h hz; exact h
    refine (compile_no t _ w4 (by omega) HP4.out hz).mono ?_
    rintro e w5 ⟨rfl, hE5⟩
    rw [hc13]
    have HE5 := Lib.hid hE5
    have HC := Lib.hid hc13
    clear hE5 hz hch hc13
    go_wp2_with fail
    refine (rcheck_any t rb n 0 _ (by omega) hn (lst_ext HL4.out HE5.out)).mono ?_
    rintro e w6 ⟨rfl, hE6⟩
    rw [HC.out]
    have HE6 := Lib.hid (ext_trans HE5.out hE6)
    clear hE6
    go_wp2
    refine bodyPost_ret (results_tmp rfl _ _ _) rfl ?_
    exact ⟨rfl, ext_trans HE4.out HE6.out⟩
end Go.Proofs.Ytiabmdboacpmcaa
