/- The law Lefts. -/
import Derived.Test.YtniggdaakiofeaaTz
namespace Go.Proofs.Ytniggdaakiofeaa
open Go Go.RowKit Go.Sort
set_option maxHeartbeats 4000000

set_option maxRecDepth 100000 in
theorem lefts_law (v0 : Value) (v1 : Value) (t : Nat) (xs : List Nat) (rs : List (List Nat)) (ys : List Nat) (ss : List (List Nat)) (w : World) (h0 : RawV w v0 xs rs) (h1 : RawV w v1 ys ss) (l0 : xs.length ≤ maxLen) (m0 : rs.length ≤ maxLen) (n0 : ∀ r ∈ rs, r.length ≤ maxLen) (l1 : ys.length ≤ maxLen) (m1 : ss.length ≤ maxLen) (n1 : ∀ r ∈ ss, r.length ≤ maxLen) (ht : t ≤ 255) :
    Calls Try.prog 4 #[v0, v1, .int .u8 (t : Int)] w fun e w' => e = .returned (.bool true) ∧ Ext w w' := by
  have hml : maxLen ≤ 9223372036854775807 := by decide
  have F0 := Lib.hid (fun w' (hE : Ext w w') => few_any v0 xs rs w' (rawV_ext h0 hE) (Nat.le_trans l0 hml) (Nat.le_trans m0 hml) (fun r hr => Nat.le_trans (n0 r hr) hml))
  have HR0 := Lib.hid h0
  obtain ⟨a0, d0, rfl, p0, q0⟩ := h0
  obtain ⟨A0, c0, rfl⟩ := rdU_form p0
  obtain ⟨B0, e0, rfl⟩ := rdUU_form q0
  clear p0 q0 l0 m0 n0
  have F1 := Lib.hid (fun w' (hE : Ext w w') => few_any v1 ys ss w' (rawV_ext h1 hE) (Nat.le_trans l1 hml) (Nat.le_trans m1 hml) (fun r hr => Nat.le_trans (n1 r hr) hml))
  have HR1 := Lib.hid h1
  obtain ⟨a1, d1, rfl, p1, q1⟩ := h1
  obtain ⟨A1, c1, rfl⟩ := rdU_form p1
  obtain ⟨B1, e1, rfl⟩ := rdUU_form q1
  clear p1 q1 l1 m1 n1
  clear hml
  have HE_1 := Lib.hid (ext_refl w)
  go_enter Try.func4, Try.ntmps4
  go_wp2_with fail
  refine (awake_any _).mono ?_
  rintro e w1 ⟨rfl, hE⟩
  obtain ⟨hE, g0, g1, g2⟩ := ext3 hE
  have HE_2 := Lib.hid (ext_trans HE_1.out hE)
  clear HE_1
  obtain ⟨bx0, hbx0⟩ : ∃ bx0, bx0 = w.heap.size := ⟨_, rfl⟩
  obtain ⟨bx1, hbx1⟩ : ∃ bx1, bx1 = w.heap.size + 1 := ⟨_, rfl⟩
  obtain ⟨bt, hbt⟩ : ∃ bt, bt = w.heap.size + 1 + 1 := ⟨_, rfl⟩
  try rw [← hbt]
  rw [← hbt] at g2
  try rw [← hbx1]
  rw [← hbx1] at g1
  try rw [← hbx0]
  rw [← hbx0] at g0
  have X0_3 := Lib.hid (show w1.heap[bx0]? = some (.cells #[.slice A0 xs.length c0, .slice B0 rs.length e0] 32 (0, 0)) from g0)
  have Sbx0 := Lib.hid hbx0
  clear g0 hbx0
  have X1_4 := Lib.hid (show w1.heap[bx1]? = some (.cells #[.slice A1 ys.length c1, .slice B1 ss.length e1] 32 (0, 0)) from g1)
  have Sbx1 := Lib.hid hbx1
  clear g1 hbx1
  have XT_5 := Lib.hid (show w1.heap[bt]? = some (.cells #[.int .u8 (t : Int)] 5 (0, 0)) from g2)
  have Sbt := Lib.hid hbt
  clear g2 hbt
  clear hE
  have qX00 : w1.cell? ⟨bx0, 0, none⟩ = some (.slice A0 xs.length c0) := block_cell X0_3.out 0
  have qX01 : w1.cell? ⟨bx0, 1, none⟩ = some (.slice B0 rs.length e0) := block_cell X0_3.out 1
  have lX0 := block_lt X0_3.out
  go_wp2_with fail
  clear qX00 qX01 lX0
  refine (F0.out _ HE_2.out).mono ?_
  rintro e w2 ⟨rfl, hE⟩
  have HE_6 := Lib.hid (ext_trans HE_2.out hE)
  clear HE_2
  have X0_7 := Lib.hid ((ext_block hE (block_lt X0_3.out)).trans X0_3.out)
  clear X0_3
  have X1_8 := Lib.hid ((ext_block hE (block_lt X1_4.out)).trans X1_4.out)
  clear X1_4
  have XT_9 := Lib.hid ((ext_block hE (block_lt XT_5.out)).trans XT_5.out)
  clear XT_5
  clear hE
  obtain ⟨f0, hf0⟩ : ∃ f, f = fewB xs rs := ⟨_, rfl⟩
  rw [← hf0]
  have HF0 := Lib.hid hf0
  clear hf0
  cases f0
  · skip
    go_wp2_with fail
    refine (awake_any _).mono ?_
    rintro e w3 ⟨rfl, hE⟩
    have HE_10 := Lib.hid (ext_trans HE_6.out hE)
    clear HE_6
    have X0_11 := Lib.hid ((ext_block hE (block_lt X0_7.out)).trans X0_7.out)
    clear X0_7
    have X1_12 := Lib.hid ((ext_block hE (block_lt X1_8.out)).trans X1_8.out)
    clear X1_8
    have XT_13 := Lib.hid ((ext_block hE (block_lt XT_9.out)).trans XT_9.out)
    clear XT_9
    clear hE
    go_wp2
    refine bodyPost_ret (results_tmp rfl _ _ _) rfl ?_
    exact ⟨rfl, HE_10.out⟩
  have qX10 : w2.cell? ⟨bx1, 0, none⟩ = some (.slice A1 ys.length c1) := block_cell X1_8.out 0
  have qX11 : w2.cell? ⟨bx1, 1, none⟩ = some (.slice B1 ss.length e1) := block_cell X1_8.out 1
  have lX1 := block_lt X1_8.out
  go_wp2_with fail
  clear qX10 qX11 lX1
  refine (F1.out _ HE_6.out).mono ?_
  rintro e w4 ⟨rfl, hE⟩
  have HE_14 := Lib.hid (ext_trans HE_6.out hE)
  clear HE_6
  have X0_15 := Lib.hid ((ext_block hE (block_lt X0_7.out)).trans X0_7.out)
  clear X0_7
  have X1_16 := Lib.hid ((ext_block hE (block_lt X1_8.out)).trans X1_8.out)
  clear X1_8
  have XT_17 := Lib.hid ((ext_block hE (block_lt XT_9.out)).trans XT_9.out)
  clear XT_9
  clear hE
  obtain ⟨f1, hf1⟩ : ∃ f, f = fewB ys ss := ⟨_, rfl⟩
  rw [← hf1]
  have HF1 := Lib.hid hf1
  clear hf1
  cases f1
  · skip
    go_wp2_with fail
    refine (awake_any _).mono ?_
    rintro e w5 ⟨rfl, hE⟩
    have HE_18 := Lib.hid (ext_trans HE_14.out hE)
    clear HE_14
    have X0_19 := Lib.hid ((ext_block hE (block_lt X0_15.out)).trans X0_15.out)
    clear X0_15
    have X1_20 := Lib.hid ((ext_block hE (block_lt X1_16.out)).trans X1_16.out)
    clear X1_16
    have XT_21 := Lib.hid ((ext_block hE (block_lt XT_17.out)).trans XT_17.out)
    clear XT_17
    clear hE
    go_wp2
    refine bodyPost_ret (results_tmp rfl _ _ _) rfl ?_
    exact ⟨rfl, HE_18.out⟩
  obtain ⟨U, hU⟩ : ∃ U, U = setS (namesOf xs) := ⟨_, rfl⟩
  obtain ⟨M, hM⟩ : ∃ M, M = docT xs rs := ⟨_, rfl⟩
  have IT0 := Lib.hid (show IsT U M by rw [hU, hM]; exact isT_of HF0.out.symm)
  have DU := Lib.hid hU
  have DM := Lib.hid hM
  clear hU hM
  have qX00 : w4.cell? ⟨bx0, 0, none⟩ = some (.slice A0 xs.length c0) := block_cell X0_15.out 0
  have qX01 : w4.cell? ⟨bx0, 1, none⟩ = some (.slice B0 rs.length e0) := block_cell X0_15.out 1
  have lX0 := block_lt X0_15.out
  go_wp2_with fail
  clear qX00 qX01 lX0
  refine (build_spec _ xs rs U M _ DU.out DM.out (rawV_ext HR0.out HE_14.out) HF0.out.symm).mono ?_
  rintro e w6 ⟨P0, i0, Q0, j0, D0, k0, G0, o0, rfl, how, htd, hE⟩
  have HE_22 := Lib.hid (ext_trans HE_14.out hE)
  clear HE_14
  have X0_23 := Lib.hid ((ext_block hE (block_lt X0_15.out)).trans X0_15.out)
  clear X0_15
  have X1_24 := Lib.hid ((ext_block hE (block_lt X1_16.out)).trans X1_16.out)
  clear X1_16
  have XT_25 := Lib.hid ((ext_block hE (block_lt XT_17.out)).trans XT_17.out)
  clear XT_17
  clear hE
  have bu0 : U.length ≤ 5 := IT0.out.vars
  have br0 : M.length ≤ 8 := IT0.out.rows
  have OA0_26 := Lib.hid (how)
  have TD0_27 := Lib.hid (htd)
  clear how htd
  obtain ⟨V, hV⟩ : ∃ U, U = setS (namesOf ys) := ⟨_, rfl⟩
  obtain ⟨N, hN⟩ : ∃ M, M = docT ys ss := ⟨_, rfl⟩
  have IT1 := Lib.hid (show IsT V N by rw [hV, hN]; exact isT_of HF1.out.symm)
  have DV := Lib.hid hV
  have DN := Lib.hid hN
  clear hV hN
  have qX10 : w6.cell? ⟨bx1, 0, none⟩ = some (.slice A1 ys.length c1) := block_cell X1_24.out 0
  have qX11 : w6.cell? ⟨bx1, 1, none⟩ = some (.slice B1 ss.length e1) := block_cell X1_24.out 1
  have lX1 := block_lt X1_24.out
  go_wp2_with fail
  clear qX10 qX11 lX1
  refine (build_spec _ ys ss V N _ DV.out DN.out (rawV_ext HR1.out (ext_trans HE_22.out (ext_alloc (ext_alloc (ext_refl _) _) _))) HF1.out.symm).mono ?_
  rintro e w7 ⟨P1, i1, Q1, j1, D1, k1, G1, o1, rfl, how, htd, hE⟩
  obtain ⟨hE, g0, g1⟩ := ext2 hE
  have HE_28 := Lib.hid (ext_trans HE_22.out hE)
  clear HE_22
  have X0_29 := Lib.hid ((ext_block hE (block_lt X0_23.out)).trans X0_23.out)
  clear X0_23
  have X1_30 := Lib.hid ((ext_block hE (block_lt X1_24.out)).trans X1_24.out)
  clear X1_24
  have XT_31 := Lib.hid ((ext_block hE (block_lt XT_25.out)).trans XT_25.out)
  clear XT_25
  have OA0_32 := Lib.hid (own_ext OA0_26.out hE)
  clear OA0_26
  have TD0_33 := Lib.hid (tD_ext TD0_27.out hE)
  clear TD0_27
  obtain ⟨ca0, hca0⟩ : ∃ ca0, ca0 = w6.heap.size := ⟨_, rfl⟩
  obtain ⟨cm0, hcm0⟩ : ∃ cm0, cm0 = w6.heap.size + 1 := ⟨_, rfl⟩
  try rw [← hcm0]
  rw [← hcm0] at g1
  try rw [← hca0]
  rw [← hca0] at g0
  have CA0_34 := Lib.hid (show w7.heap[ca0]? = some (.cells #[.slice P0 U.length i0, .slice Q0 M.length j0] 27 (0, 0)) from g0)
  have Sca0 := Lib.hid hca0
  clear g0 hca0
  have CM0_35 := Lib.hid (show w7.heap[cm0]? = some (.cells #[.slice D0 U.length k0, .slice G0 M.length o0] 36 (0, 0)) from g1)
  have Scm0 := Lib.hid hcm0
  clear g1 hcm0
  clear hE
  have bu1 : V.length ≤ 5 := IT1.out.vars
  have br1 : N.length ≤ 8 := IT1.out.rows
  have OA1_36 := Lib.hid (how)
  have TD1_37 := Lib.hid (htd)
  clear how htd
  have ht256 : (0 : Int) ≤ (t : Int) ∧ (t : Int) < 256 := by omega
  have qCM00 : w7.cell? ⟨cm0, 0, none⟩ = some (.slice D0 U.length k0) := block_cell CM0_35.out 0
  have qCM01 : w7.cell? ⟨cm0, 1, none⟩ = some (.slice G0 M.length o0) := block_cell CM0_35.out 1
  have lCM0 := block_lt CM0_35.out
  go_wp2_with fail
  clear qCM00 qCM01 lCM0
  refine (both_any _ _ U V _ (rdS_row (rowE_ext (tD_parts TD0_33.out).1 (ext_alloc (ext_alloc (ext_refl _) _) _))) (rdS_row (rowE_ext (tD_parts TD1_37.out).1 (ext_alloc (ext_alloc (ext_refl _) _) _))) (by omega) (by omega)).mono ?_
  rintro e w8 ⟨vb, rfl, hrb, hE⟩
  obtain ⟨hE, g0, g1⟩ := ext2 hE
  have HE_38 := Lib.hid (ext_trans HE_28.out hE)
  clear HE_28
  have X0_39 := Lib.hid ((ext_block hE (block_lt X0_29.out)).trans X0_29.out)
  clear X0_29
  have X1_40 := Lib.hid ((ext_block hE (block_lt X1_30.out)).trans X1_30.out)
  clear X1_30
  have XT_41 := Lib.hid ((ext_block hE (block_lt XT_31.out)).trans XT_31.out)
  clear XT_31
  have OA0_42 := Lib.hid (own_ext OA0_32.out hE)
  clear OA0_32
  have TD0_43 := Lib.hid (tD_ext TD0_33.out hE)
  clear TD0_33
  have CA0_44 := Lib.hid ((ext_block hE (block_lt CA0_34.out)).trans CA0_34.out)
  clear CA0_34
  have CM0_45 := Lib.hid ((ext_block hE (block_lt CM0_35.out)).trans CM0_35.out)
  clear CM0_35
  have OA1_46 := Lib.hid (own_ext OA1_36.out hE)
  clear OA1_36
  have TD1_47 := Lib.hid (tD_ext TD1_37.out hE)
  clear TD1_37
  obtain ⟨ca1, hca1⟩ : ∃ ca1, ca1 = w7.heap.size := ⟨_, rfl⟩
  obtain ⟨cm1, hcm1⟩ : ∃ cm1, cm1 = w7.heap.size + 1 := ⟨_, rfl⟩
  try rw [← hcm1]
  rw [← hcm1] at g1
  try rw [← hca1]
  rw [← hca1] at g0
  have CA1_48 := Lib.hid (show w8.heap[ca1]? = some (.cells #[.slice P1 V.length i1, .slice Q1 N.length j1] 27 (0, 0)) from g0)
  have Sca1 := Lib.hid hca1
  clear g0 hca1
  have CM1_49 := Lib.hid (show w8.heap[cm1]? = some (.cells #[.slice D1 V.length k1, .slice G1 N.length o1] 36 (0, 0)) from g1)
  have Scm1 := Lib.hid hcm1
  clear g1 hcm1
  clear hE
  obtain ⟨A9, c9, rfl⟩ := rowE_form hrb
  obtain ⟨VV, hVV⟩ : ∃ VV, VV = setS (U ++ V) := ⟨_, rfl⟩
  rw [← hVV] at hrb ⊢
  have DVV := Lib.hid hVV
  have HRB := Lib.hid hrb
  clear hVV hrb
  obtain ⟨p, hp⟩ : ∃ p, p = w8.heap.size := ⟨_, rfl⟩
  obtain ⟨W, hW⟩ : ∃ W, W = w8.alloc (.cells #[.slice A9 VV.length c9, .slice none 0 0] 36) := ⟨_, rfl⟩
  have hEW : Ext w8 W := by rw [hW]; exact ext_alloc (ext_refl _) _
  have HT0 := Lib.hid (show TDB (fun g => p ≤ g) W p VV (leftQ t (M.take 0) N) from ⟨_, _, [], by rw [hW, hp]; exact heap_alloc_new _ _, rowE_ext HRB.out hEW, ⟨rowE_nil _, fun g hg => by cases hg⟩, rowsQ_nil _⟩)
  have HEW := Lib.hid hEW
  have SP := Lib.hid hp
  have qCM00 : w8.cell? ⟨cm0, 0, none⟩ = some (.slice D0 U.length k0) := block_cell CM0_45.out 0
  have qCM01 : w8.cell? ⟨cm0, 1, none⟩ = some (.slice G0 M.length o0) := block_cell CM0_45.out 1
  have lCM0 := block_lt CM0_45.out
  go_wp2
  clear qCM00 qCM01 lCM0
  rw [← hW, ← hp]
  clear hW hp hEW
  go_loopw [51] (fun x wr => ∃ j : Nat, j ≤ M.length ∧ x = .int .i64 j ∧ TDB (fun g => p ≤ g) wr p VV (leftQ t (M.take j) N) ∧ Ext w8 wr) (fun x _ => M.length - (intOf x).toNat)
  case atStart => exact ⟨0, Nat.zero_le _, rfl, HT0.out, HEW.out⟩
  case round =>
    rename World => wo
    obtain ⟨j, hj, rfl, hT, hE⟩ := hrel
    have HT := Lib.hid hT
    have HO := Lib.hid hE
    clear hT hE HT0 HEW
    have hpw := ext_size HO.out
    rw [← SP.out] at hpw
    have HPW := Lib.hid hpw
    clear hpw
    by_cases hlt : j < M.length
    · have hji : (j : Int) < (M.length : Int) := by omega
      have hj0 : (0 : Int) ≤ (j : Int) := by omega
      obtain ⟨r, hr⟩ : ∃ r, M[j]? = some r := ⟨_, List.getElem?_eq_getElem hlt⟩
      have HRJ := Lib.hid hr
      have HRM := Lib.hid (List.mem_of_getElem? hr)
      obtain ⟨b, B', d', hG, hb, hc, hri⟩ := rdQ_at (tD_parts TD0_43.out).2 hr
      subst hG
      have HRI := Lib.hid hri
      have HCB := Lib.hid hc
      have HBL := Lib.hid hb
      have q4 := (ext_cell HO.out _ _ hb).trans hc
      have l4 := ext_lt HO.out hb
      have K0 := Lib.hid ((ext_block HO.out (block_lt CM0_45.out)).trans CM0_45.out)
      have K1 := Lib.hid ((ext_block HO.out (block_lt CM1_49.out)).trans CM1_49.out)
      clear hr hri hc hb
      have q0 : wo.cell? ⟨cm0, 0, none⟩ = some (.slice D0 U.length k0) := block_cell K0.out 0
      have l0 := block_lt K0.out
      have q2 : wo.cell? ⟨cm1, 0, none⟩ = some (.slice D1 V.length k1) := block_cell K1.out 0
      have q3 : wo.cell? ⟨cm1, 1, none⟩ = some (.slice G1 N.length o1) := block_cell K1.out 1
      have l2 := block_lt K1.out
      go_wp2_with fail
      clear q4 l4 q0 l0 q2 q3 l2
      refine (rjoin_any _ _ _ _ U V [r] N _ (td_one (rowE_ext (tD_parts TD0_43.out).1 HO.out) (rowE_ext HRI.out HO.out)) (tD_ext TD1_47.out (ext_trans HO.out (ext_alloc (ext_refl _) _))) (by omega) (by omega) (fun x hx => by rw [List.mem_singleton.1 hx]; have := IT0.out.len r HRM.out; omega) (fun y hy => by have := IT1.out.len y hy; omega) (by simp) (by omega) (by simp; omega)).mono ?_
      rintro e wj ⟨ov, orv, rfl, hto, hfr, hE⟩
      obtain ⟨hE, -⟩ := ext1 hE
      rw [← DVV.out] at hto
      obtain ⟨t1, t2⟩ := tD_parts hto
      obtain ⟨J, hJ⟩ : ∃ J, J = joinQ [r] N := ⟨_, rfl⟩
      rw [← hJ] at t2
      have hJl : J.length ≤ 8 := by have := joinQ_len [r] N; rw [← hJ] at this; simp at this; omega
      have DJ := Lib.hid hJ
      obtain ⟨A5, c5, rfl⟩ := rowE_form t1
      obtain ⟨A6, c6, rfl⟩ := rdQ_form t2
      have T2 := Lib.hid t2
      have HFR := Lib.hid (fun g hg => Nat.lt_of_lt_of_le (by simp) (hfr g hg) : ∀ g, (Value.slice A6 J.length c6).ownBlock = some g → wo.heap.size < g)
      clear hto hfr t1 t2 hJ
      have HEJ := Lib.hid hE
      obtain ⟨Wi, hWi⟩ : ∃ W, W = wj.alloc (.cells #[.slice A5 VV.length c5, .slice A6 J.length c6] 36) := ⟨_, rfl⟩
      have hEi : Ext wj Wi := by rw [hWi]; exact ext_alloc (ext_refl _) _
      have BO := Lib.hid (show Wi.heap[wj.heap.size]? = some (.cells #[.slice A5 VV.length c5, .slice A6 J.length c6] 36 (0, 0)) by rw [hWi]; exact heap_alloc_new _ _)
      have hEI := ext_trans hE hEi
      obtain ⟨T, hTT⟩ : ∃ T, T = leftQ t (M.take j) N := ⟨_, rfl⟩
      rw [← hTT] at HT
      have DT := Lib.hid hTT
      have hTl : T.length ≤ 80 := by
        have h1 := leftQ_len t (M.take j) N
        rw [← hTT, List.length_take] at h1
        have h2 : min j M.length * (N.length + 1) ≤ 8 * 9 := Nat.mul_le_mul (by omega) (by omega)
        omega
      clear hTT
      obtain ⟨wv, wr0, sl, k1', k2', k3', k4'⟩ := HT.out
      have HP0 := Lib.hid k3'.2
      have HP1 := Lib.hid (show ∀ g, wr0.ownBlock = some g → g < wo.heap.size from fun g hg => (rowE_block k3'.1 hg).1)
      have HPL := Lib.hid (block_lt k1')
      obtain ⟨ok, hok⟩ : ∃ ok : Nat → Prop, ok = fun g => wr0.ownBlock = some g ∨ Wi.heap.size ≤ g := ⟨_, rfl⟩
      have HOK := Lib.hid (show ∀ g, ok g ↔ wr0.ownBlock = some g ∨ Wi.heap.size ≤ g by rw [hok]; exact fun g => Iff.rfl)
      clear hok
      have HTY := Lib.hid (show ∀ b, ok b ∨ b = p → ∀ cur t, Wi.heap[b]? = some (.cells cur t (0, 0)) → t ≠ 9 ∧ t ≠ 66 from fun b hb cur t hbt => by
        rcases hb with hb | hb
        · rcases (HOK.out b).1 hb with hb | hb
          · obtain ⟨_, cur', hc'⟩ := rowE_block (rowE_ext k3'.1 hEI) hb
            rw [hbt] at hc'
            simp only [Option.some.injEq, Obj.cells.injEq] at hc'
            rw [hc'.2.1]
            exact ⟨by decide, by decide⟩
          · have := block_lt hbt; omega
        · rw [hb, ext_block hEI (block_lt k1'), k1'] at hbt
          simp only [Option.some.injEq, Obj.cells.injEq] at hbt
          rw [← hbt.2.1]
          exact ⟨by decide, by decide⟩)
      have HTI := Lib.hid (show TDB ok Wi p VV T from ⟨wv, wr0, sl, (ext_block hEI (block_lt k1')).trans k1', rowE_ext k2' hEI, ⟨rowE_ext k3'.1 hEI, fun g hg => (HOK.out g).2 (.inl hg)⟩, rowsQ_ext k4' hEI⟩)
      have HEI := Lib.hid hEI
      have HEi := Lib.hid hEi
      have HHI := Lib.hid (show ∀ b, ok b ∨ b = p → p ≤ b from fun b hb => by
        rcases hb with hb | hb
        · rcases (HOK.out b).1 hb with hb | hb
          · exact HP0.out b hb
          · have := ext_size hEI; have := HPW.out; omega
        · omega)
      have DWI := Lib.hid (show wj.heap.size < Wi.heap.size by rw [hWi]; simp)
      have HJS := Lib.hid (ext_size hE)
      go_wp2
      rw [← hWi]
      clear hWi hE hEi hEI k1' k2' k3' k4' HT
      go_loopw [65, 15] (fun y s wr => ∃ k : Nat, k ≤ J.length ∧ y = .int .i64 k ∧ s = .bool (!((J.take k).filter fun s => decide (sumR s ≤ (t : Int) % 9)).isEmpty) ∧ TDB ok wr p VV (T ++ (J.take k).filter fun s => decide (sumR s ≤ (t : Int) % 9)) ∧ Upd (fun b => ok b ∨ b = p) Wi wr) (fun y _ _ => J.length - (intOf y).toNat)
      case atStart => exact ⟨0, Nat.zero_le _, rfl, rfl, by simpa using HTI.out, upd_refl⟩
      case round =>
        rename World => wi
        obtain ⟨k, hk, rfl, rfl, hT, hU⟩ := hrel
        have HT3 := Lib.hid hT
        have HU3 := Lib.hid hU
        have HX3 := Lib.hid (ext_upd (ext_trans HO.out HEI.out) hU (fun b hb => by rw [← SP.out]; exact HHI.out b hb))
        clear hT hU
        obtain ⟨TK, hTK⟩ : ∃ TK, TK = (J.take k).filter fun s => decide (sumR s ≤ (t : Int) % 9) := ⟨_, rfl⟩
        rw [← hTK] at HT3 ⊢
        have DTK := Lib.hid hTK
        have hTKl : TK.length ≤ 8 := by
          rw [hTK]
          have := List.length_filter_le (fun s => decide (sumR s ≤ (t : Int) % 9)) (J.take k)
          rw [List.length_take] at this
          omega
        clear hTK
        by_cases hkt : k < J.length
        · have hki : (k : Int) < (J.length : Int) := by omega
          have hk0 : (0 : Int) ≤ (k : Int) := by omega
          obtain ⟨s, hs⟩ : ∃ s, J[k]? = some s := ⟨_, List.getElem?_eq_getElem hkt⟩
          have HS := Lib.hid hs
          obtain ⟨g, B6, d6, hG, hg, hc, hri⟩ := rdQ_at (rdQ_ext T2.out HEi.out) hs
          subst hG
          have hgl := HFR.out g rfl
          have hgw : g < wj.heap.size := (rdQ_lt T2.out (by intro e; rw [e] at hs; simp at hs))
          have hng : ¬ (ok g ∨ g = p) := by
            rintro (h | h)
            · rcases (HOK.out g).1 h with h | h
              · have := HP1.out g h; omega
              · have := DWI.out; omega
            · have := HPL.out; omega
          have q1 := (upd_cell HU3.out hg hng k).trans hc
          have l1 := Nat.lt_of_lt_of_le hg HU3.out.size
          have HRS := Lib.hid (rowE_off_upd hri HU3.out (fun b hb cur t' hbt => (HTY.out b hb cur t' hbt).2))
          have bt' := (ext_block HX3.out (block_lt XT_41.out)).trans XT_41.out
          have qt : wi.cell? ⟨bt, 0, none⟩ = some (.int .u8 (t : Int)) := block_cell bt' 0
          have lt' := block_lt bt'
          have hsm : ∀ q ∈ s, 0 ≤ q.2 ∧ q.2 ≤ 1000 := by
            have h1 := List.mem_of_getElem? hs
            rw [DJ.out, joinQ_one] at h1
            obtain ⟨s0, h2, h3⟩ := List.mem_map.1 h1
            rw [← h3]
            exact small_join _ _ (IT0.out.small r HRM.out) (IT1.out.small s0 (List.mem_filter.1 h2).1)
          have hsl : s.length ≤ 40 := by
            have h1 := List.mem_of_getElem? hs
            rw [DJ.out, joinQ_one] at h1
            obtain ⟨s0, h2, h3⟩ := List.mem_map.1 h1
            rw [← h3]
            have h4 := joinD_len s0 r
            have h5 := IT0.out.len r HRM.out
            have h6 := IT1.out.len s0 (List.mem_filter.1 h2).1
            omega
          have CS := Lib.hid (fun w' (hE : Ext wi w') => sum_any _ s w' (rowE_ext HRS.out hE) (by omega) hsm)
          obtain ⟨sm, hsu⟩ : ∃ sm, sm = sumR s := ⟨_, rfl⟩
          rw [← hsu] at CS
          have DSU := Lib.hid hsu
          clear hs hc hri hg hgl hgw hng bt' hsm hsu
          have hgc := cell_grown
          go_wp2
          refine wp_region_free 6 [0, 1, 2, 3, 4, 5] [] (by kernel_rfl) (by kernel_rfl) ?_
          repeat (refine wpLoose_step rfl (fun K hK => ?_); (try simp only [Oper.quietAt, Oper.quietUpon]); go_simp; first | (refine hK _ ?_; clear hK K) | (apply Exists.intro; refine ⟨fun p => ?_, hK _ ?_⟩; (go_at_call 12; exact CS.out _ (ext_grow (ext_refl _) _ _)); clear hK K))
          refine wpLoose_nil (wpFresh_nil (fun w3 hE3 _ => ?_))
          simp only [List.drop_succ_cons, List.drop_zero]
          refine wpList_nil ?_
          have HT4 := Lib.hid (tDB_ext HT3.out hE3)
          have HU4 := Lib.hid (upd_ext HU3.out hE3)
          have HRS4 := Lib.hid (rowE_ext HRS.out hE3)
          have hs4 := ext_size hE3
          have HS4 := Lib.hid (Nat.le_trans HU3.out.size hs4)
          clear hE3 hgc q1 l1 qt lt' hs4
          have hmod : IntKind.i64.wrap ((t : Int).tmod 9) = (t : Int) % 9 := by
            rw [Int.tmod_eq_emod_of_nonneg (by omega)]
            exact IntWalk.i64_in _ (by omega)
          by_cases hle : sm ≤ (t : Int) % 9
          · have HY := Lib.hid (J_yes HS.out (by rw [← DSU.out]; exact hle))
            rw [← DTK.out] at HY
            obtain ⟨uv, ur, su, u1, u2, u3, u4⟩ := HT4.out
            have hsu := u4.1
            rw [List.length_append] at hsu
            have qp : w3.cell? ⟨p, 1, none⟩ = some ur := block_cell u1 1
            have lp := block_lt u1
            have U1 := Lib.hid u1
            have U2 := Lib.hid u2
            have U3 := Lib.hid u3
            have U4 := Lib.hid u4
            clear u1 u2 u3 u4
            go_wp2_with (at_builtin; refine halt_here ?_)
            refine go_on ?_
            refine wpList_append rfl (.tmp 76) (.tmp 78) rfl ur _ rfl rfl (fun v' w' => WM ok p VV (T ++ TK ++ [s]) w3 ur v' w') (want_run _ U1.out U2.out U3.out U4.out HRS4.out (by omega) (fun b hb => (HOK.out b).2 (.inr (Nat.le_trans HS4.out hb)))) ?_
            rintro v5 w5 ⟨x1, x2, x3, x4, x5, A7, n7, c7, rfl⟩
            have HT5 := Lib.hid x1
            have HU5 := Lib.hid (upd_trans HU4.out x2 (fun b _ hb => hb.elim (fun e => .inl (U3.out.2 b e)) .inr))
            clear x1 x2 qp lp
            go_wp2
            go_roundw
            case rel => exact ⟨k + 1, by omega, by go_num, by rw [HY.out]; simp, by rw [HY.out, ← List.append_assoc]; exact HT5.out, HU5.out⟩
            case measure => simp [intOf]; omega
          · have HN := Lib.hid (J_no HS.out (by rw [← DSU.out]; exact hle))
            rw [← DTK.out] at HN
            go_wp2
            go_roundw
            case rel => exact ⟨k + 1, by omega, by go_num, by rw [HN.out], by rw [HN.out]; exact HT4.out, HU4.out⟩
            case measure => simp [intOf]; omega
        · obtain rfl : k = J.length := by omega
          have hend : TK = leftD t N r := by rw [DTK.out, List.take_length, DJ.out]; rfl
          have HX4 := Lib.hid (ext_upd (ext_trans HO.out HEI.out) HU3.out (fun b hb => by rw [← SP.out]; exact HHI.out b hb))
          have HEE := Lib.hid hend
          have HOP := Lib.hid (show ∀ g, ok g → p ≤ g from fun g hg => HHI.out g (.inl hg))
          cases hTKc : TK with
          | nil =>
            have HLE := Lib.hid (show leftE t N r = [r] by unfold leftE; rw [← hend, hTKc]; rfl)
            rw [hTKc] at HT3
            have hT3 := HT3.out
            rw [List.append_nil] at hT3
            obtain ⟨uv, ur, su, u1, u2, u3, u4⟩ := hT3
            have hsu := u4.1
            have qp : wi.cell? ⟨p, 1, none⟩ = some ur := block_cell u1 1
            have lp := block_lt u1
            have U1 := Lib.hid u1
            have U2 := Lib.hid u2
            have U3 := Lib.hid (rowG_mono u3 HOP.out)
            have U4 := Lib.hid u4
            have HPI := Lib.hid (ext_size HX4.out)
            clear u1 u2 u3 u4 hend hTKc
            go_wp2_with (at_builtin; refine halt_here ?_)
            refine go_on ?_
            refine wpList_append rfl (.tmp 85) (.tmp 87) rfl ur _ rfl rfl (fun v' w' => WM (fun g => p ≤ g) p VV (T ++ [r]) wi ur v' w') (want_run _ U1.out U2.out U3.out U4.out (rowE_ext HRI.out HX4.out) (by omega) (fun b hb => by have := HPI.out; have := SP.out; omega)) ?_
            rintro v5 w5 ⟨x1, x2, x3, x4, x5, A7, n7, c7, rfl⟩
            have HT5 := Lib.hid x1
            have HU5 := Lib.hid (ext_upd HX4.out x2 (fun b hb => by rw [← SP.out]; exact hb.elim (fun e => U3.out.2 b e) (fun e => by omega)))
            clear x1 x2 qp lp
            go_wp2
            go_roundw
            case rel => exact ⟨j + 1, by omega, by go_num, by rw [leftQ_take HRJ.out, ← DT.out, HLE.out]; exact HT5.out, HU5.out⟩
            case measure => simp [intOf]; omega
          | cons s0 TK0 =>
            have HLE := Lib.hid (show leftE t N r = TK by unfold leftE; rw [← hend, hTKc]; rfl)
            clear hend hTKc
            go_wp2
            go_roundw
            case rel => exact ⟨j + 1, by omega, by go_num, by rw [leftQ_take HRJ.out, ← DT.out, HLE.out]; exact tDB_mono HT3.out HOP.out, HX4.out⟩
            case measure => simp [intOf]; omega
    · obtain rfl : j = M.length := by omega
      rw [List.take_length] at HT
      obtain ⟨Q, hQ⟩ : ∃ Q, Q = leftQ t M N := ⟨_, rfl⟩
      rw [← hQ] at HT
      have DQ := Lib.hid hQ
      clear hQ
      have XT_50 := Lib.hid ((ext_block HO.out (block_lt XT_41.out)).trans XT_41.out)
      clear XT_41
      have CA0_51 := Lib.hid ((ext_block HO.out (block_lt CA0_44.out)).trans CA0_44.out)
      clear CA0_44
      have CM0_52 := Lib.hid ((ext_block HO.out (block_lt CM0_45.out)).trans CM0_45.out)
      clear CM0_45
      have CA1_53 := Lib.hid ((ext_block HO.out (block_lt CA1_48.out)).trans CA1_48.out)
      clear CA1_48
      have CM1_54 := Lib.hid ((ext_block HO.out (block_lt CM1_49.out)).trans CM1_49.out)
      clear CM1_49
      have OA0_55 := Lib.hid (own_ext OA0_42.out HO.out)
      clear OA0_42
      have OA1_56 := Lib.hid (own_ext OA1_46.out HO.out)
      clear OA1_46
      have TD0_57 := Lib.hid (tD_ext TD0_43.out HO.out)
      clear TD0_43
      have TD1_58 := Lib.hid (tD_ext TD1_47.out HO.out)
      clear TD1_47
      have HE_59 := Lib.hid (ext_trans HE_38.out HO.out)
      clear HE_38
      obtain ⟨uv, ur, su, u1, u2, u3, u4⟩ := HT.out
      obtain ⟨A7, c7, rfl⟩ := rowE_form u2
      obtain ⟨A8, c8, rfl⟩ := rowE_form u3.1
      have hsu := u4.1
      rw [hsu] at u1 u3
      have TDW_60 := Lib.hid ((show TD wo (.agg #[.slice A7 VV.length c7, .slice A8 Q.length c8]) VV Q from ⟨_, _, rfl, u2, su, u3.1, u4⟩))
      have CW_61 := Lib.hid (show wo.heap[p]? = some (.cells #[.slice A7 VV.length c7, .slice A8 Q.length c8] 36 (0, 0)) from u1)
      clear u1 u2 u3 u4
      have hVl : VV.length ≤ 10 := by rw [DVV.out]; have := setS_length (U ++ V); rw [List.length_append] at this; omega
      have hrl : ∀ x ∈ rowsD U M, x.length = U.length := rowsD_mem
      have hsl : ∀ x ∈ rowsD V N, x.length = V.length := rowsD_mem
      have HRL := Lib.hid hrl
      have HSL := Lib.hid hsl
      clear hrl hsl
      have CB := Lib.hid (show ∀ w', Ext wo w' → CbOk 14 #[.pointer (some ⟨bt, 0, none⟩)] VV (okS VV t) SmallR w' from fun w' hE T x tv xv w1 hE1 hx hxl hxs hTl ht hxr => leftsF_any bt t tv xv VV T x w1 ((ext_block (ext_trans hE hE1) (block_lt XT_50.out)).trans XT_50.out) (by omega) ht hxr (by rw [DVV.out]; exact rise_setS _) (by omega) hxl hxs)
      have HSM := Lib.hid (show ∀ x ∈ rowsD U M, ∀ y ∈ rowsD V N, SmallR (joinR U V x y) from joinR_small IT0.out IT1.out)
      have qCA00 : wo.cell? ⟨ca0, 0, none⟩ = some (.slice P0 U.length i0) := block_cell CA0_51.out 0
      have qCA01 : wo.cell? ⟨ca0, 1, none⟩ = some (.slice Q0 M.length j0) := block_cell CA0_51.out 1
      have lCA0 := block_lt CA0_51.out
      have qCA10 : wo.cell? ⟨ca1, 0, none⟩ = some (.slice P1 V.length i1) := block_cell CA1_53.out 0
      have qCA11 : wo.cell? ⟨ca1, 1, none⟩ = some (.slice Q1 N.length j1) := block_cell CA1_53.out 1
      have lCA1 := block_lt CA1_53.out
      go_wp2_with fail
      clear qCA00 qCA01 lCA0 qCA10 qCA11 lCA1
      refine (leftjoin_any 14 _ eg14 (okS VV t) _ _ _ _ U V (rowsD U M) (rowsD V N) _ (own_tab OA0_55.out) (own_tab OA1_56.out) IT0.out.rise IT1.out.rise (by omega) (by omega) HRL.out HSL.out (by rw [rowsD_len]; omega) (by rw [rowsD_len]; omega) (by rw [rowsD_len, rowsD_len]; have : M.length * (N.length + 1) ≤ 8 * 9 := Nat.mul_le_mul (by omega) (by omega); omega) SmallR HSM.out (by rw [← DVV.out]; exact CB.out _ (ext_refl _))).mono ?_
      rintro e w9 ⟨vg, rg, rfl, hog, hE⟩
      have XT_62 := Lib.hid ((ext_block hE (block_lt XT_50.out)).trans XT_50.out)
      clear XT_50
      have CA0_63 := Lib.hid ((ext_block hE (block_lt CA0_51.out)).trans CA0_51.out)
      clear CA0_51
      have CM0_64 := Lib.hid ((ext_block hE (block_lt CM0_52.out)).trans CM0_52.out)
      clear CM0_52
      have CA1_65 := Lib.hid ((ext_block hE (block_lt CA1_53.out)).trans CA1_53.out)
      clear CA1_53
      have CM1_66 := Lib.hid ((ext_block hE (block_lt CM1_54.out)).trans CM1_54.out)
      clear CM1_54
      have OA0_67 := Lib.hid (own_ext OA0_55.out hE)
      clear OA0_55
      have OA1_68 := Lib.hid (own_ext OA1_56.out hE)
      clear OA1_56
      have TD0_69 := Lib.hid (tD_ext TD0_57.out hE)
      clear TD0_57
      have TD1_70 := Lib.hid (tD_ext TD1_58.out hE)
      clear TD1_58
      have HE_71 := Lib.hid (ext_trans HE_59.out hE)
      clear HE_59
      have TDW_72 := Lib.hid (tD_ext TDW_60.out hE)
      clear TDW_60
      have CW_73 := Lib.hid ((ext_block hE (block_lt CW_61.out)).trans CW_61.out)
      clear CW_61
      clear hE
      rw [← DVV.out, show leftN (okS VV t) U V (rowsD U M) (rowsD V N) = rowsD VV Q by rw [DVV.out, DQ.out]; exact left_same t IT0.out.ok IT1.out.ok] at hog
      obtain ⟨A10, c10, rfl⟩ := rdS_form (rdS_row hog.1.1)
      obtain ⟨A11, c11, rfl⟩ := rdW_form (own_rdW hog)
      rw [rowsD_len] at hog ⊢
      have OG_74 := Lib.hid (hog)
      clear hog
      have HRV := Lib.hid (show RiseS VV by rw [DVV.out]; exact rise_setS _)
      have HQO := Lib.hid (show ∀ r ∈ Q, okR VV r by rw [DVV.out, DQ.out]; exact leftQ_ok t IT0.out.ok IT1.out.ok)
      have HQR := Lib.hid (show ∀ r ∈ Q, r.length ≤ 1000000 by rw [DQ.out]; exact leftQ_rlen t IT0.out IT1.out)
      have hQl : Q.length ≤ 1000000 := by have h1 := leftQ_len t M N; rw [← DQ.out] at h1; have h2 : M.length * (N.length + 1) ≤ 8 * 9 := Nat.mul_le_mul (by omega) (by omega); omega
      have qCW0 : w9.cell? ⟨p, 0, none⟩ = some (.slice A7 VV.length c7) := block_cell CW_73.out 0
      have qCW1 : w9.cell? ⟨p, 1, none⟩ = some (.slice A8 Q.length c8) := block_cell CW_73.out 1
      have lCW := block_lt CW_73.out
      go_wp2_with fail
      clear qCW0 qCW1 lCW
      refine (is_yes _ _ VV Q _ (tabV_ext (own_tab OG_74.out) (ext_alloc (ext_refl _) _)) (tD_ext TDW_72.out (ext_alloc (ext_refl _) _)) HRV.out HQO.out (by omega) hQl HQR.out).mono ?_
      rintro e w10 ⟨rfl, hE⟩
      obtain ⟨hE, g0⟩ := ext1 hE
      have XT_75 := Lib.hid ((ext_block hE (block_lt XT_62.out)).trans XT_62.out)
      clear XT_62
      have CA0_76 := Lib.hid ((ext_block hE (block_lt CA0_63.out)).trans CA0_63.out)
      clear CA0_63
      have CM0_77 := Lib.hid ((ext_block hE (block_lt CM0_64.out)).trans CM0_64.out)
      clear CM0_64
      have CA1_78 := Lib.hid ((ext_block hE (block_lt CA1_65.out)).trans CA1_65.out)
      clear CA1_65
      have CM1_79 := Lib.hid ((ext_block hE (block_lt CM1_66.out)).trans CM1_66.out)
      clear CM1_66
      have OA0_80 := Lib.hid (own_ext OA0_67.out hE)
      clear OA0_67
      have OA1_81 := Lib.hid (own_ext OA1_68.out hE)
      clear OA1_68
      have TD0_82 := Lib.hid (tD_ext TD0_69.out hE)
      clear TD0_69
      have TD1_83 := Lib.hid (tD_ext TD1_70.out hE)
      clear TD1_70
      have HE_84 := Lib.hid (ext_trans HE_71.out hE)
      clear HE_71
      have TDW_85 := Lib.hid (tD_ext TDW_72.out hE)
      clear TDW_72
      have CW_86 := Lib.hid ((ext_block hE (block_lt CW_73.out)).trans CW_73.out)
      clear CW_73
      have OG_87 := Lib.hid (own_ext OG_74.out hE)
      clear OG_74
      obtain ⟨cg, hcg⟩ : ∃ cg, cg = w9.heap.size := ⟨_, rfl⟩
      try rw [← hcg]
      rw [← hcg] at g0
      have CG_88 := Lib.hid (show w10.heap[cg]? = some (.cells #[.slice A10 VV.length c10, .slice A11 Q.length c11] 27 (0, 0)) from g0)
      have Scg := Lib.hid hcg
      clear g0 hcg
      clear hE
      have qCA00 : w10.cell? ⟨ca0, 0, none⟩ = some (.slice P0 U.length i0) := block_cell CA0_76.out 0
      have qCA01 : w10.cell? ⟨ca0, 1, none⟩ = some (.slice Q0 M.length j0) := block_cell CA0_76.out 1
      have lCA0 := block_lt CA0_76.out
      have qCM00 : w10.cell? ⟨cm0, 0, none⟩ = some (.slice D0 U.length k0) := block_cell CM0_77.out 0
      have qCM01 : w10.cell? ⟨cm0, 1, none⟩ = some (.slice G0 M.length o0) := block_cell CM0_77.out 1
      have lCM0 := block_lt CM0_77.out
      go_wp2_with fail
      clear qCA00 qCA01 lCA0 qCM00 qCM01 lCM0
      refine (is_yes _ _ U M _ (own_tab OA0_80.out) TD0_82.out IT0.out.rise IT0.out.ok (by omega) (by omega) (fun r hr => by have := IT0.out.len r hr; omega)).mono ?_
      rintro e w11 ⟨rfl, hE⟩
      have XT_89 := Lib.hid ((ext_block hE (block_lt XT_75.out)).trans XT_75.out)
      clear XT_75
      have CA0_90 := Lib.hid ((ext_block hE (block_lt CA0_76.out)).trans CA0_76.out)
      clear CA0_76
      have CM0_91 := Lib.hid ((ext_block hE (block_lt CM0_77.out)).trans CM0_77.out)
      clear CM0_77
      have CA1_92 := Lib.hid ((ext_block hE (block_lt CA1_78.out)).trans CA1_78.out)
      clear CA1_78
      have CM1_93 := Lib.hid ((ext_block hE (block_lt CM1_79.out)).trans CM1_79.out)
      clear CM1_79
      have OA0_94 := Lib.hid (own_ext OA0_80.out hE)
      clear OA0_80
      have OA1_95 := Lib.hid (own_ext OA1_81.out hE)
      clear OA1_81
      have TD0_96 := Lib.hid (tD_ext TD0_82.out hE)
      clear TD0_82
      have TD1_97 := Lib.hid (tD_ext TD1_83.out hE)
      clear TD1_83
      have HE_98 := Lib.hid (ext_trans HE_84.out hE)
      clear HE_84
      have TDW_99 := Lib.hid (tD_ext TDW_85.out hE)
      clear TDW_85
      have CW_100 := Lib.hid ((ext_block hE (block_lt CW_86.out)).trans CW_86.out)
      clear CW_86
      have OG_101 := Lib.hid (own_ext OG_87.out hE)
      clear OG_87
      have CG_102 := Lib.hid ((ext_block hE (block_lt CG_88.out)).trans CG_88.out)
      clear CG_88
      clear hE
      have qCA10 : w11.cell? ⟨ca1, 0, none⟩ = some (.slice P1 V.length i1) := block_cell CA1_92.out 0
      have qCA11 : w11.cell? ⟨ca1, 1, none⟩ = some (.slice Q1 N.length j1) := block_cell CA1_92.out 1
      have lCA1 := block_lt CA1_92.out
      have qCM10 : w11.cell? ⟨cm1, 0, none⟩ = some (.slice D1 V.length k1) := block_cell CM1_93.out 0
      have qCM11 : w11.cell? ⟨cm1, 1, none⟩ = some (.slice G1 N.length o1) := block_cell CM1_93.out 1
      have lCM1 := block_lt CM1_93.out
      go_wp2_with fail
      clear qCA10 qCA11 lCA1 qCM10 qCM11 lCM1
      refine (is_yes _ _ V N _ (own_tab OA1_95.out) TD1_97.out IT1.out.rise IT1.out.ok (by omega) (by omega) (fun r hr => by have := IT1.out.len r hr; omega)).mono ?_
      rintro e w12 ⟨rfl, hE⟩
      have XT_103 := Lib.hid ((ext_block hE (block_lt XT_89.out)).trans XT_89.out)
      clear XT_89
      have CA0_104 := Lib.hid ((ext_block hE (block_lt CA0_90.out)).trans CA0_90.out)
      clear CA0_90
      have CM0_105 := Lib.hid ((ext_block hE (block_lt CM0_91.out)).trans CM0_91.out)
      clear CM0_91
      have CA1_106 := Lib.hid ((ext_block hE (block_lt CA1_92.out)).trans CA1_92.out)
      clear CA1_92
      have CM1_107 := Lib.hid ((ext_block hE (block_lt CM1_93.out)).trans CM1_93.out)
      clear CM1_93
      have OA0_108 := Lib.hid (own_ext OA0_94.out hE)
      clear OA0_94
      have OA1_109 := Lib.hid (own_ext OA1_95.out hE)
      clear OA1_95
      have TD0_110 := Lib.hid (tD_ext TD0_96.out hE)
      clear TD0_96
      have TD1_111 := Lib.hid (tD_ext TD1_97.out hE)
      clear TD1_97
      have HE_112 := Lib.hid (ext_trans HE_98.out hE)
      clear HE_98
      have TDW_113 := Lib.hid (tD_ext TDW_99.out hE)
      clear TDW_99
      have CW_114 := Lib.hid ((ext_block hE (block_lt CW_100.out)).trans CW_100.out)
      clear CW_100
      have OG_115 := Lib.hid (own_ext OG_101.out hE)
      clear OG_101
      have CG_116 := Lib.hid ((ext_block hE (block_lt CG_102.out)).trans CG_102.out)
      clear CG_102
      clear hE
      go_wp2
      refine bodyPost_ret (results_tmp rfl _ _ _) rfl ?_
      exact ⟨rfl, HE_112.out⟩
end Go.Proofs.Ytniggdaakiofeaa
