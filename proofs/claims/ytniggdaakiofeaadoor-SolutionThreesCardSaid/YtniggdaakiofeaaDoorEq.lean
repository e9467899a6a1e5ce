/- The law Threes. -/
import Derived.Test.YtniggdaakiofeaaDoorEp
import Derived.Test.YtniggdaakiofeaaDoorSu
namespace Go.Proofs.YtniggdaakiofeaaDoor
open Go Go.RowKit Go.Sort
set_option maxHeartbeats 2000000

/- of this seat alone: 80 -/
set_option maxRecDepth 100000 in
theorem threes_law (v0 : Value) (v1 : Value) (v2 : Value) (xs : List Nat) (rs : List (List Nat)) (ys : List Nat) (ss : List (List Nat)) (zs : List Nat) (ts : List (List Nat)) (w : World) (h0 : RawV w v0 xs rs) (h1 : RawV w v1 ys ss) (h2 : RawV w v2 zs ts) (l0 : xs.length ≤ maxLen) (m0 : rs.length ≤ maxLen) (n0 : ∀ r ∈ rs, r.length ≤ maxLen) (l1 : ys.length ≤ maxLen) (m1 : ss.length ≤ maxLen) (n1 : ∀ r ∈ ss, r.length ≤ maxLen) (l2 : zs.length ≤ maxLen) (m2 : ts.length ≤ maxLen) (n2 : ∀ r ∈ ts, r.length ≤ maxLen) (hT : TabP w) :
    Calls Tryd.prog 5 #[v0, v1, v2] w fun e w' => e = .returned (.bool true) ∧ Ext w w' := by
  have hml : maxLen ≤ 9223372036854775807 := by decide
  have F0 := Lib.hid (fun w' (hE : Ext w w') => few_any v0 xs rs w' (rawV_ext h0 hE) (Nat.le_trans l0 hml) (Nat.le_trans m0 hml) (fun r hr => Nat.le_trans (n0 r hr) hml))
  have HR0 := Lib.hid h0
  obtain ⟨a0, d0, rfl, p0, q0⟩ := h0
  obtain ⟨A0, c0, rfl⟩ := rdU_form p0
  obtain ⟨B0, e0, rfl⟩ := rdUU_form q0
  clear p0 q0 l0 m0 n0
  have F1 := Lib.hid (fun w' (hE : Ext w w') => few_any v1 ys ss w' (rawV_ext h1 hE) (Nat.le_trans l1 hml) (Nat.le_trans m1 hml) (fun r hr => Nat.le_trans (n1 r hr) hml))
  have HR1 := Lib.hid h1
  obtain ⟨a1, d1, rfl, p1, q1⟩ := h1
  obtain ⟨A1, c1, rfl⟩ := rdU_form p1
  obtain ⟨B1, e1, rfl⟩ := rdUU_form q1
  clear p1 q1 l1 m1 n1
  have F2 := Lib.hid (fun w' (hE : Ext w w') => few_any v2 zs ts w' (rawV_ext h2 hE) (Nat.le_trans l2 hml) (Nat.le_trans m2 hml) (fun r hr => Nat.le_trans (n2 r hr) hml))
  have HR2 := Lib.hid h2
  obtain ⟨a2, d2, rfl, p2, q2⟩ := h2
  obtain ⟨A2, c2, rfl⟩ := rdU_form p2
  obtain ⟨B2, e2, rfl⟩ := rdUU_form q2
  clear p2 q2 l2 m2 n2
  clear hml
  have HE_1 := Lib.hid (ext_refl w)
  have HTP := Lib.hid hT
  clear hT
  go_enter Tryd.func5, Tryd.ntmps5
  go_wp2_with fail
  refine (awake_any _).mono ?_
  rintro e w1 ⟨rfl, hE⟩
  obtain ⟨hE, g0, g1, g2⟩ := ext3 hE
  have HE_2 := Lib.hid (ext_trans HE_1.out hE)
  clear HE_1
  obtain ⟨bx0, hbx0⟩ : ∃ bx0, bx0 = w.heap.size := ⟨_, rfl⟩
  obtain ⟨bx1, hbx1⟩ : ∃ bx1, bx1 = w.heap.size + 1 := ⟨_, rfl⟩
  obtain ⟨bx2, hbx2⟩ : ∃ bx2, bx2 = w.heap.size + 1 + 1 := ⟨_, rfl⟩
  try rw [← hbx2]
  rw [← hbx2] at g2
  try rw [← hbx1]
  rw [← hbx1] at g1
  try rw [← hbx0]
  rw [← hbx0] at g0
  have X0_3 := Lib.hid (show w1.heap[bx0]? = some (.cells #[.slice A0 xs.length c0, .slice B0 rs.length e0] 25 (0, 0)) from g0)
  have Sbx0 := Lib.hid hbx0
  clear g0 hbx0
  have X1_4 := Lib.hid (show w1.heap[bx1]? = some (.cells #[.slice A1 ys.length c1, .slice B1 ss.length e1] 25 (0, 0)) from g1)
  have Sbx1 := Lib.hid hbx1
  clear g1 hbx1
  have X2_5 := Lib.hid (show w1.heap[bx2]? = some (.cells #[.slice A2 zs.length c2, .slice B2 ts.length e2] 25 (0, 0)) from g2)
  have Sbx2 := Lib.hid hbx2
  clear g2 hbx2
  clear hE
  have qX00 : w1.cell? ⟨bx0, 0, none⟩ = some (.slice A0 xs.length c0) := block_cell X0_3.out 0
  have qX01 : w1.cell? ⟨bx0, 1, none⟩ = some (.slice B0 rs.length e0) := block_cell X0_3.out 1
  have lX0 := block_lt X0_3.out
  go_wp2_with fail
  clear qX00 qX01 lX0
  refine (F0.out _ HE_2.out).mono ?_
  rintro e w2 ⟨rfl, hE⟩
  have HE_6 := Lib.hid (ext_trans HE_2.out hE)
  clear HE_2
  have X0_7 := Lib.hid ((ext_block hE (block_lt X0_3.out)).trans X0_3.out)
  clear X0_3
  have X1_8 := Lib.hid ((ext_block hE (block_lt X1_4.out)).trans X1_4.out)
  clear X1_4
  have X2_9 := Lib.hid ((ext_block hE (block_lt X2_5.out)).trans X2_5.out)
  clear X2_5
  clear hE
  obtain ⟨f0, hf0⟩ : ∃ f, f = fewB xs rs := ⟨_, rfl⟩
  rw [← hf0]
  have HF0 := Lib.hid hf0
  clear hf0
  cases f0
  · skip
    go_wp2_with fail
    refine (awake_any _).mono ?_
    rintro e w3 ⟨rfl, hE⟩
    have HE_10 := Lib.hid (ext_trans HE_6.out hE)
    clear HE_6
    have X0_11 := Lib.hid ((ext_block hE (block_lt X0_7.out)).trans X0_7.out)
    clear X0_7
    have X1_12 := Lib.hid ((ext_block hE (block_lt X1_8.out)).trans X1_8.out)
    clear X1_8
    have X2_13 := Lib.hid ((ext_block hE (block_lt X2_9.out)).trans X2_9.out)
    clear X2_9
    clear hE
    go_wp2
    refine bodyPost_ret (results_tmp rfl _ _ _) rfl ?_
    exact ⟨rfl, HE_10.out⟩
  have qX10 : w2.cell? ⟨bx1, 0, none⟩ = some (.slice A1 ys.length c1) := block_cell X1_8.out 0
  have qX11 : w2.cell? ⟨bx1, 1, none⟩ = some (.slice B1 ss.length e1) := block_cell X1_8.out 1
  have lX1 := block_lt X1_8.out
  go_wp2_with fail
  clear qX10 qX11 lX1
  refine (F1.out _ HE_6.out).mono ?_
  rintro e w4 ⟨rfl, hE⟩
  have HE_14 := Lib.hid (ext_trans HE_6.out hE)
  clear HE_6
  have X0_15 := Lib.hid ((ext_block hE (block_lt X0_7.out)).trans X0_7.out)
  clear X0_7
  have X1_16 := Lib.hid ((ext_block hE (block_lt X1_8.out)).trans X1_8.out)
  clear X1_8
  have X2_17 := Lib.hid ((ext_block hE (block_lt X2_9.out)).trans X2_9.out)
  clear X2_9
  clear hE
  obtain ⟨f1, hf1⟩ : ∃ f, f = fewB ys ss := ⟨_, rfl⟩
  rw [← hf1]
  have HF1 := Lib.hid hf1
  clear hf1
  cases f1
  · skip
    go_wp2_with fail
    refine (awake_any _).mono ?_
    rintro e w5 ⟨rfl, hE⟩
    have HE_18 := Lib.hid (ext_trans HE_14.out hE)
    clear HE_14
    have X0_19 := Lib.hid ((ext_block hE (block_lt X0_15.out)).trans X0_15.out)
    clear X0_15
    have X1_20 := Lib.hid ((ext_block hE (block_lt X1_16.out)).trans X1_16.out)
    clear X1_16
    have X2_21 := Lib.hid ((ext_block hE (block_lt X2_17.out)).trans X2_17.out)
    clear X2_17
    clear hE
    go_wp2
    refine bodyPost_ret (results_tmp rfl _ _ _) rfl ?_
    exact ⟨rfl, HE_18.out⟩
  have qX20 : w4.cell? ⟨bx2, 0, none⟩ = some (.slice A2 zs.length c2) := block_cell X2_17.out 0
  have qX21 : w4.cell? ⟨bx2, 1, none⟩ = some (.slice B2 ts.length e2) := block_cell X2_17.out 1
  have lX2 := block_lt X2_17.out
  go_wp2_with fail
  clear qX20 qX21 lX2
  refine (F2.out _ HE_14.out).mono ?_
  rintro e w6 ⟨rfl, hE⟩
  have HE_22 := Lib.hid (ext_trans HE_14.out hE)
  clear HE_14
  have X0_23 := Lib.hid ((ext_block hE (block_lt X0_15.out)).trans X0_15.out)
  clear X0_15
  have X1_24 := Lib.hid ((ext_block hE (block_lt X1_16.out)).trans X1_16.out)
  clear X1_16
  have X2_25 := Lib.hid ((ext_block hE (block_lt X2_17.out)).trans X2_17.out)
  clear X2_17
  clear hE
  obtain ⟨f2, hf2⟩ : ∃ f, f = fewB zs ts := ⟨_, rfl⟩
  rw [← hf2]
  have HF2 := Lib.hid hf2
  clear hf2
  cases f2
  · skip
    go_wp2_with fail
    refine (awake_any _).mono ?_
    rintro e w7 ⟨rfl, hE⟩
    have HE_26 := Lib.hid (ext_trans HE_22.out hE)
    clear HE_22
    have X0_27 := Lib.hid ((ext_block hE (block_lt X0_23.out)).trans X0_23.out)
    clear X0_23
    have X1_28 := Lib.hid ((ext_block hE (block_lt X1_24.out)).trans X1_24.out)
    clear X1_24
    have X2_29 := Lib.hid ((ext_block hE (block_lt X2_25.out)).trans X2_25.out)
    clear X2_25
    clear hE
    go_wp2
    refine bodyPost_ret (results_tmp rfl _ _ _) rfl ?_
    exact ⟨rfl, HE_26.out⟩
  obtain ⟨U, hU⟩ : ∃ U, U = setS (namesOf xs) := ⟨_, rfl⟩
  obtain ⟨M, hM⟩ : ∃ M, M = docT xs rs := ⟨_, rfl⟩
  have IT0 := Lib.hid (show IsT U M by rw [hU, hM]; exact isT_of HF0.out.symm)
  have DU := Lib.hid hU
  have DM := Lib.hid hM
  clear hU hM
  have qX00 : w6.cell? ⟨bx0, 0, none⟩ = some (.slice A0 xs.length c0) := block_cell X0_23.out 0
  have qX01 : w6.cell? ⟨bx0, 1, none⟩ = some (.slice B0 rs.length e0) := block_cell X0_23.out 1
  have lX0 := block_lt X0_23.out
  go_wp2_with fail
  clear qX00 qX01 lX0
  refine (build_spec _ xs rs U M _ DU.out DM.out (rawV_ext HR0.out HE_22.out) HF0.out.symm).mono ?_
  rintro e w8 ⟨P0, i0, Q0, j0, D0, k0, G0, o0, rfl, how, htd, hE⟩
  have HE_30 := Lib.hid (ext_trans HE_22.out hE)
  clear HE_22
  have X0_31 := Lib.hid ((ext_block hE (block_lt X0_23.out)).trans X0_23.out)
  clear X0_23
  have X1_32 := Lib.hid ((ext_block hE (block_lt X1_24.out)).trans X1_24.out)
  clear X1_24
  have X2_33 := Lib.hid ((ext_block hE (block_lt X2_25.out)).trans X2_25.out)
  clear X2_25
  clear hE
  have bu0 : U.length ≤ 5 := IT0.out.vars
  have br0 : M.length ≤ 8 := IT0.out.rows
  have OA0_34 := Lib.hid (how)
  have TD0_35 := Lib.hid (htd)
  clear how htd
  obtain ⟨V, hV⟩ : ∃ U, U = setS (namesOf ys) := ⟨_, rfl⟩
  obtain ⟨N, hN⟩ : ∃ M, M = docT ys ss := ⟨_, rfl⟩
  have IT1 := Lib.hid (show IsT V N by rw [hV, hN]; exact isT_of HF1.out.symm)
  have DV := Lib.hid hV
  have DN := Lib.hid hN
  clear hV hN
  have qX10 : w8.cell? ⟨bx1, 0, none⟩ = some (.slice A1 ys.length c1) := block_cell X1_32.out 0
  have qX11 : w8.cell? ⟨bx1, 1, none⟩ = some (.slice B1 ss.length e1) := block_cell X1_32.out 1
  have lX1 := block_lt X1_32.out
  go_wp2_with fail
  clear qX10 qX11 lX1
  refine (build_spec _ ys ss V N _ DV.out DN.out (rawV_ext HR1.out (ext_trans HE_30.out (ext_alloc (ext_alloc (ext_refl _) _) _))) HF1.out.symm).mono ?_
  rintro e w9 ⟨P1, i1, Q1, j1, D1, k1, G1, o1, rfl, how, htd, hE⟩
  obtain ⟨hE, g0, g1⟩ := ext2 hE
  have HE_36 := Lib.hid (ext_trans HE_30.out hE)
  clear HE_30
  have X0_37 := Lib.hid ((ext_block hE (block_lt X0_31.out)).trans X0_31.out)
  clear X0_31
  have X1_38 := Lib.hid ((ext_block hE (block_lt X1_32.out)).trans X1_32.out)
  clear X1_32
  have X2_39 := Lib.hid ((ext_block hE (block_lt X2_33.out)).trans X2_33.out)
  clear X2_33
  have OA0_40 := Lib.hid (own_ext OA0_34.out hE)
  clear OA0_34
  have TD0_41 := Lib.hid (tD_ext TD0_35.out hE)
  clear TD0_35
  obtain ⟨ca0, hca0⟩ : ∃ ca0, ca0 = w8.heap.size := ⟨_, rfl⟩
  obtain ⟨cm0, hcm0⟩ : ∃ cm0, cm0 = w8.heap.size + 1 := ⟨_, rfl⟩
  try rw [← hcm0]
  rw [← hcm0] at g1
  try rw [← hca0]
  rw [← hca0] at g0
  have CA0_42 := Lib.hid (show w9.heap[ca0]? = some (.cells #[.slice P0 U.length i0, .slice Q0 M.length j0] 31 (0, 0)) from g0)
  have Sca0 := Lib.hid hca0
  clear g0 hca0
  have CM0_43 := Lib.hid (show w9.heap[cm0]? = some (.cells #[.slice D0 U.length k0, .slice G0 M.length o0] 34 (0, 0)) from g1)
  have Scm0 := Lib.hid hcm0
  clear g1 hcm0
  clear hE
  have bu1 : V.length ≤ 5 := IT1.out.vars
  have br1 : N.length ≤ 8 := IT1.out.rows
  have OA1_44 := Lib.hid (how)
  have TD1_45 := Lib.hid (htd)
  clear how htd
  obtain ⟨Z, hZ⟩ : ∃ U, U = setS (namesOf zs) := ⟨_, rfl⟩
  obtain ⟨O, hO⟩ : ∃ M, M = docT zs ts := ⟨_, rfl⟩
  have IT2 := Lib.hid (show IsT Z O by rw [hZ, hO]; exact isT_of HF2.out.symm)
  have DZ := Lib.hid hZ
  have DO := Lib.hid hO
  clear hZ hO
  have qX20 : w9.cell? ⟨bx2, 0, none⟩ = some (.slice A2 zs.length c2) := block_cell X2_39.out 0
  have qX21 : w9.cell? ⟨bx2, 1, none⟩ = some (.slice B2 ts.length e2) := block_cell X2_39.out 1
  have lX2 := block_lt X2_39.out
  go_wp2_with fail
  clear qX20 qX21 lX2
  refine (build_spec _ zs ts Z O _ DZ.out DO.out (rawV_ext HR2.out (ext_trans HE_36.out (ext_alloc (ext_alloc (ext_refl _) _) _))) HF2.out.symm).mono ?_
  rintro e w10 ⟨P2, i2, Q2, j2, D2, k2, G2, o2, rfl, how, htd, hE⟩
  obtain ⟨hE, g0, g1⟩ := ext2 hE
  have HE_46 := Lib.hid (ext_trans HE_36.out hE)
  clear HE_36
  have X0_47 := Lib.hid ((ext_block hE (block_lt X0_37.out)).trans X0_37.out)
  clear X0_37
  have X1_48 := Lib.hid ((ext_block hE (block_lt X1_38.out)).trans X1_38.out)
  clear X1_38
  have X2_49 := Lib.hid ((ext_block hE (block_lt X2_39.out)).trans X2_39.out)
  clear X2_39
  have OA0_50 := Lib.hid (own_ext OA0_40.out hE)
  clear OA0_40
  have TD0_51 := Lib.hid (tD_ext TD0_41.out hE)
  clear TD0_41
  have CA0_52 := Lib.hid ((ext_block hE (block_lt CA0_42.out)).trans CA0_42.out)
  clear CA0_42
  have CM0_53 := Lib.hid ((ext_block hE (block_lt CM0_43.out)).trans CM0_43.out)
  clear CM0_43
  have OA1_54 := Lib.hid (own_ext OA1_44.out hE)
  clear OA1_44
  have TD1_55 := Lib.hid (tD_ext TD1_45.out hE)
  clear TD1_45
  obtain ⟨ca1, hca1⟩ : ∃ ca1, ca1 = w9.heap.size := ⟨_, rfl⟩
  obtain ⟨cm1, hcm1⟩ : ∃ cm1, cm1 = w9.heap.size + 1 := ⟨_, rfl⟩
  try rw [← hcm1]
  rw [← hcm1] at g1
  try rw [← hca1]
  rw [← hca1] at g0
  have CA1_56 := Lib.hid (show w10.heap[ca1]? = some (.cells #[.slice P1 V.length i1, .slice Q1 N.length j1] 31 (0, 0)) from g0)
  have Sca1 := Lib.hid hca1
  clear g0 hca1
  have CM1_57 := Lib.hid (show w10.heap[cm1]? = some (.cells #[.slice D1 V.length k1, .slice G1 N.length o1] 34 (0, 0)) from g1)
  have Scm1 := Lib.hid hcm1
  clear g1 hcm1
  clear hE
  have bu2 : Z.length ≤ 5 := IT2.out.vars
  have br2 : O.length ≤ 8 := IT2.out.rows
  have OA2_58 := Lib.hid (how)
  have TD2_59 := Lib.hid (htd)
  clear how htd
  have TB0 := Lib.hid (tb_isT IT0.out DM.out)
  have TB1 := Lib.hid (tb_isT IT1.out DN.out)
  have TB2 := Lib.hid (tb_isT IT2.out DO.out)
  go_wp2
  obtain ⟨W11, hW⟩ : ∃ W, W = (w10.alloc (.cells #[.slice P2 Z.length i2, .slice Q2 O.length j2] 31)).alloc (.cells #[.slice D2 Z.length k2, .slice G2 O.length o2] 34) := ⟨_, rfl⟩
  have hE : Ext w10 W11 := by rw [hW]; exact ext_alloc (ext_alloc (ext_refl _) _) _
  obtain ⟨ca2, hca2⟩ : ∃ b, b = w10.heap.size := ⟨_, rfl⟩
  obtain ⟨cm2, hcm2⟩ : ∃ b, b = w10.heap.size + 1 := ⟨_, rfl⟩
  have g0 : W11.heap[ca2]? = some (.cells #[.slice P2 Z.length i2, .slice Q2 O.length j2] 31 (0, 0)) := by rw [hW, hca2]; exact (heap_two w10 (.cells #[.slice P2 Z.length i2, .slice Q2 O.length j2] 31) (.cells #[.slice D2 Z.length k2, .slice G2 O.length o2] 34)).1
  have g1 : W11.heap[cm2]? = some (.cells #[.slice D2 Z.length k2, .slice G2 O.length o2] 34 (0, 0)) := by rw [hW, hcm2]; exact (heap_two w10 (.cells #[.slice P2 Z.length i2, .slice Q2 O.length j2] 31) (.cells #[.slice D2 Z.length k2, .slice G2 O.length o2] 34)).2
  have Sca2 := Lib.hid hca2
  have Scm2 := Lib.hid hcm2
  try rw [← hW]
  try rw [← hcm2]
  try rw [← hca2]
  have HE_60 := Lib.hid (ext_trans HE_46.out hE)
  clear HE_46
  have X0_61 := Lib.hid ((ext_block hE (block_lt X0_47.out)).trans X0_47.out)
  clear X0_47
  have X1_62 := Lib.hid ((ext_block hE (block_lt X1_48.out)).trans X1_48.out)
  clear X1_48
  have X2_63 := Lib.hid ((ext_block hE (block_lt X2_49.out)).trans X2_49.out)
  clear X2_49
  have OA0_64 := Lib.hid (own_ext OA0_50.out hE)
  clear OA0_50
  have TD0_65 := Lib.hid (tD_ext TD0_51.out hE)
  clear TD0_51
  have CA0_66 := Lib.hid ((ext_block hE (block_lt CA0_52.out)).trans CA0_52.out)
  clear CA0_52
  have CM0_67 := Lib.hid ((ext_block hE (block_lt CM0_53.out)).trans CM0_53.out)
  clear CM0_53
  have OA1_68 := Lib.hid (own_ext OA1_54.out hE)
  clear OA1_54
  have TD1_69 := Lib.hid (tD_ext TD1_55.out hE)
  clear TD1_55
  have CA1_70 := Lib.hid ((ext_block hE (block_lt CA1_56.out)).trans CA1_56.out)
  clear CA1_56
  have CM1_71 := Lib.hid ((ext_block hE (block_lt CM1_57.out)).trans CM1_57.out)
  clear CM1_57
  have OA2_72 := Lib.hid (own_ext OA2_58.out hE)
  clear OA2_58
  have TD2_73 := Lib.hid (tD_ext TD2_59.out hE)
  clear TD2_59
  have CA2_74 := Lib.hid (show W11.heap[ca2]? = some (.cells #[.slice P2 Z.length i2, .slice Q2 O.length j2] 31 (0, 0)) from g0)
  clear g0 hca2
  have CM2_75 := Lib.hid (show W11.heap[cm2]? = some (.cells #[.slice D2 Z.length k2, .slice G2 O.length o2] 34 (0, 0)) from g1)
  clear g1 hcm2
  clear hE hW
  have qCA00 : W11.cell? ⟨ca0, 0, none⟩ = some (.slice P0 U.length i0) := block_cell CA0_66.out 0
  have qCA01 : W11.cell? ⟨ca0, 1, none⟩ = some (.slice Q0 M.length j0) := block_cell CA0_66.out 1
  have lCA0 := block_lt CA0_66.out
  have qCA10 : W11.cell? ⟨ca1, 0, none⟩ = some (.slice P1 V.length i1) := block_cell CA1_70.out 0
  have qCA11 : W11.cell? ⟨ca1, 1, none⟩ = some (.slice Q1 N.length j1) := block_cell CA1_70.out 1
  have lCA1 := block_lt CA1_70.out
  have qCA20 : W11.cell? ⟨ca2, 0, none⟩ = some (.slice P2 Z.length i2) := block_cell CA2_74.out 0
  have qCA21 : W11.cell? ⟨ca2, 1, none⟩ = some (.slice Q2 O.length j2) := block_cell CA2_74.out 1
  have lCA2 := block_lt CA2_74.out
  have hgc := cell_grown
  have uCA00 : ∀ w', Ext W11 w' → w'.cell? ⟨ca0, 0, none⟩ = some (.slice P0 U.length i0) := fun w' hE => (ext_cell hE _ _ lCA0).trans qCA00
  have uCA01 : ∀ w', Ext W11 w' → w'.cell? ⟨ca0, 1, none⟩ = some (.slice Q0 M.length j0) := fun w' hE => (ext_cell hE _ _ lCA0).trans qCA01
  have uCA10 : ∀ w', Ext W11 w' → w'.cell? ⟨ca1, 0, none⟩ = some (.slice P1 V.length i1) := fun w' hE => (ext_cell hE _ _ lCA1).trans qCA10
  have uCA11 : ∀ w', Ext W11 w' → w'.cell? ⟨ca1, 1, none⟩ = some (.slice Q1 N.length j1) := fun w' hE => (ext_cell hE _ _ lCA1).trans qCA11
  have uCA20 : ∀ w', Ext W11 w' → w'.cell? ⟨ca2, 0, none⟩ = some (.slice P2 Z.length i2) := fun w' hE => (ext_cell hE _ _ lCA2).trans qCA20
  have uCA21 : ∀ w', Ext W11 w' → w'.cell? ⟨ca2, 1, none⟩ = some (.slice Q2 O.length j2) := fun w' hE => (ext_cell hE _ _ lCA2).trans qCA21
  refine wp_region_each [] [0, 1, 3, 5, 6, 7] [(2, false, (fun _ => True), TabQ 0 (setS (U ++ V)) (joinQ M N)), (4, false, (fun _ => True), TabQ 0 (setS (setS (U ++ V) ++ Z)) (joinQ (joinQ M N) O)), (8, false, (fun _ => True), TabQ 0 (setS (V ++ Z)) (joinQ N O)), (9, false, (fun _ => True), TabQ 0 (setS (U ++ setS (V ++ Z))) (joinQ M (joinQ N O))), (10, false, (fun v => v = .bool true), fun _ _ => True), (11, false, (fun v => v = .bool false), fun _ _ => True)] [] [2, 4, 8, 9, 10, 11] rfl (by kernel_rfl) (by kernel_rfl) (fun _ _ d _ _ h => by cases d <;> exact h) ?_
  refine wpPre_nil ?_
  repeat (refine wpLoose_step rfl (fun K hK => ?_); (try simp only [Oper.quietAt, Oper.quietUpon]); go_simp; (refine hK _ ?_; clear hK K))
  refine wpLoose_nil ?_
  clear qCA00 qCA01 lCA0 qCA10 qCA11 lCA1 qCA20 qCA21 lCA2 hgc
  refine wpGz_step rfl tabF_ext ⟨undef, trivial⟩ (fun w6 hE6 hS6 => ?_) (fun v2 _ => ?_)
  · simp only [opAt, runsAt]
    go_simp
    refine (joinT _ _ w6 ⟨_, _, rfl, own_low (own_ext OA0_64.out hE6) (Nat.zero_le _)⟩ ⟨_, _, rfl, own_low (own_ext OA1_68.out hE6) (Nat.zero_le _)⟩  TB0.out TB1.out (by omega) (by omega) (by omega) (by omega) (by omega)).mono ?_
    rintro e w7 ⟨v', rfl, h3, h4⟩
    exact ⟨_, rfl, h4, by obtain ⟨x1, x2, x3, x4⟩ := h3; exact ⟨x1, x2, x3, own_low x4 (Nat.zero_le _)⟩⟩
  refine wpGz_step rfl tabF_ext ⟨undef, trivial⟩ (fun w6 hE6 hS6 => ?_) (fun v4 _ => ?_)
  · simp only [opAt, runsAt]
    go_simp
    refine (joinT _ _ w6 (hS6 _ (List.mem_cons_self ..) (by kernel_rfl)) ⟨_, _, rfl, own_low (own_ext OA2_72.out hE6) (Nat.zero_le _)⟩  (tb_join TB0.out TB1.out) TB2.out (by omega) (by omega) (by omega) (by omega) (by omega)).mono ?_
    rintro e w7 ⟨v', rfl, h3, h4⟩
    exact ⟨_, rfl, h4, by obtain ⟨x1, x2, x3, x4⟩ := h3; exact ⟨x1, x2, x3, own_low x4 (Nat.zero_le _)⟩⟩
  refine wpGz_step rfl tabF_ext ⟨undef, trivial⟩ (fun w6 hE6 hS6 => ?_) (fun v8 _ => ?_)
  · simp only [opAt, runsAt]
    go_simp
    refine (joinT _ _ w6 ⟨_, _, rfl, own_low (own_ext OA1_68.out hE6) (Nat.zero_le _)⟩ ⟨_, _, rfl, own_low (own_ext OA2_72.out hE6) (Nat.zero_le _)⟩  TB1.out TB2.out (by omega) (by omega) (by omega) (by omega) (by omega)).mono ?_
    rintro e w7 ⟨v', rfl, h3, h4⟩
    exact ⟨_, rfl, h4, by obtain ⟨x1, x2, x3, x4⟩ := h3; exact ⟨x1, x2, x3, own_low x4 (Nat.zero_le _)⟩⟩
  refine wpGz_step rfl tabF_ext ⟨undef, trivial⟩ (fun w6 hE6 hS6 => ?_) (fun v9 _ => ?_)
  · simp only [opAt, runsAt]
    go_simp
    refine (joinT _ _ w6 ⟨_, _, rfl, own_low (own_ext OA0_64.out hE6) (Nat.zero_le _)⟩ (hS6 _ (List.mem_cons_self ..) (by kernel_rfl))  TB0.out (tb_join TB1.out TB2.out) (by omega) (by omega) (by omega) (by omega) (by omega)).mono ?_
    rintro e w7 ⟨v', rfl, h3, h4⟩
    exact ⟨_, rfl, h4, by obtain ⟨x1, x2, x3, x4⟩ := h3; exact ⟨x1, x2, x3, own_low x4 (Nat.zero_le _)⟩⟩
  refine wpGz_pure rfl (fun w6 hE6 hS6 => ?_) ?_
  · simp only [opAt, runsAt]
    go_simp
    have hs := sameT _ _ w6 (hS6 _ (List.mem_cons_of_mem _ (List.mem_cons_of_mem _ (List.mem_cons_self ..))) (by kernel_rfl)) (hS6 _ (List.mem_cons_self ..) (by kernel_rfl)) (tabP_ext HTP.out (ext_trans HE_60.out hE6)) (tb_join (tb_join TB0.out TB1.out) TB2.out) (tb_join TB0.out (tb_join TB1.out TB2.out)) (by omega) (by omega) (by omega) (by omega)
    rw [threes_same TB0.out.q TB1.out.q TB2.out.q] at hs
    refine hs.mono ?_
    rintro e w7 ⟨rfl, h4⟩
    first | exact ⟨rfl, h4⟩ | exact ⟨_, rfl, h4, rfl⟩
  refine wpGz_pure rfl (fun w6 hE6 hS6 => ?_) ?_
  · simp only [opAt, runsAt]
    go_simp
    all_goals (first | exact ⟨ext_refl _, rfl⟩ | exact ext_refl _ | rfl | trivial)
  refine wpGz_nil (fun w6 hE6 hS6 => ?_)
  clear hS6 uCA00 uCA01 uCA10 uCA11 uCA20 uCA21
  obtain ⟨w12, hw⟩ : ∃ w, w = w6 := ⟨_, rfl⟩
  subst hw
  have HE_76 := Lib.hid (ext_trans HE_60.out hE6)
  clear HE_60
  have X0_77 := Lib.hid ((ext_block hE6 (block_lt X0_61.out)).trans X0_61.out)
  clear X0_61
  have X1_78 := Lib.hid ((ext_block hE6 (block_lt X1_62.out)).trans X1_62.out)
  clear X1_62
  have X2_79 := Lib.hid ((ext_block hE6 (block_lt X2_63.out)).trans X2_63.out)
  clear X2_63
  have OA0_80 := Lib.hid (own_ext OA0_64.out hE6)
  clear OA0_64
  have TD0_81 := Lib.hid (tD_ext TD0_65.out hE6)
  clear TD0_65
  have CA0_82 := Lib.hid ((ext_block hE6 (block_lt CA0_66.out)).trans CA0_66.out)
  clear CA0_66
  have CM0_83 := Lib.hid ((ext_block hE6 (block_lt CM0_67.out)).trans CM0_67.out)
  clear CM0_67
  have OA1_84 := Lib.hid (own_ext OA1_68.out hE6)
  clear OA1_68
  have TD1_85 := Lib.hid (tD_ext TD1_69.out hE6)
  clear TD1_69
  have CA1_86 := Lib.hid ((ext_block hE6 (block_lt CA1_70.out)).trans CA1_70.out)
  clear CA1_70
  have CM1_87 := Lib.hid ((ext_block hE6 (block_lt CM1_71.out)).trans CM1_71.out)
  clear CM1_71
  have OA2_88 := Lib.hid (own_ext OA2_72.out hE6)
  clear OA2_72
  have TD2_89 := Lib.hid (tD_ext TD2_73.out hE6)
  clear TD2_73
  have CA2_90 := Lib.hid ((ext_block hE6 (block_lt CA2_74.out)).trans CA2_74.out)
  clear CA2_74
  have CM2_91 := Lib.hid ((ext_block hE6 (block_lt CM2_75.out)).trans CM2_75.out)
  clear CM2_75
  clear hE6
  refine wpSeq_of_list [] [] _ _ rfl ?_
  refine wpList_nil ?_
  go_wp2
  have qCA00 : w12.cell? ⟨ca0, 0, none⟩ = some (.slice P0 U.length i0) := block_cell CA0_82.out 0
  have qCA01 : w12.cell? ⟨ca0, 1, none⟩ = some (.slice Q0 M.length j0) := block_cell CA0_82.out 1
  have lCA0 := block_lt CA0_82.out
  have qCA10 : w12.cell? ⟨ca1, 0, none⟩ = some (.slice P1 V.length i1) := block_cell CA1_86.out 0
  have qCA11 : w12.cell? ⟨ca1, 1, none⟩ = some (.slice Q1 N.length j1) := block_cell CA1_86.out 1
  have lCA1 := block_lt CA1_86.out
  have qCA20 : w12.cell? ⟨ca2, 0, none⟩ = some (.slice P2 Z.length i2) := block_cell CA2_90.out 0
  have qCA21 : w12.cell? ⟨ca2, 1, none⟩ = some (.slice Q2 O.length j2) := block_cell CA2_90.out 1
  have lCA2 := block_lt CA2_90.out
  have hgc := cell_grown
  have uCA00 : ∀ w', Ext w12 w' → w'.cell? ⟨ca0, 0, none⟩ = some (.slice P0 U.length i0) := fun w' hE => (ext_cell hE _ _ lCA0).trans qCA00
  have uCA01 : ∀ w', Ext w12 w' → w'.cell? ⟨ca0, 1, none⟩ = some (.slice Q0 M.length j0) := fun w' hE => (ext_cell hE _ _ lCA0).trans qCA01
  have uCA10 : ∀ w', Ext w12 w' → w'.cell? ⟨ca1, 0, none⟩ = some (.slice P1 V.length i1) := fun w' hE => (ext_cell hE _ _ lCA1).trans qCA10
  have uCA11 : ∀ w', Ext w12 w' → w'.cell? ⟨ca1, 1, none⟩ = some (.slice Q1 N.length j1) := fun w' hE => (ext_cell hE _ _ lCA1).trans qCA11
  have uCA20 : ∀ w', Ext w12 w' → w'.cell? ⟨ca2, 0, none⟩ = some (.slice P2 Z.length i2) := fun w' hE => (ext_cell hE _ _ lCA2).trans qCA20
  have uCA21 : ∀ w', Ext w12 w' → w'.cell? ⟨ca2, 1, none⟩ = some (.slice Q2 O.length j2) := fun w' hE => (ext_cell hE _ _ lCA2).trans qCA21
  refine wp_region_each [] [0, 1, 2, 5, 6, 8, 9] [(3, false, (fun _ => True), TabQ 0 (setS (V ++ Z)) (N ++ O)), (4, false, (fun _ => True), TabQ 0 (setS (U ++ setS (V ++ Z))) (joinQ M (N ++ O))), (7, false, (fun _ => True), TabQ 0 (setS (U ++ V)) (joinQ M N)), (10, false, (fun _ => True), TabQ 0 (setS (U ++ Z)) (joinQ M O)), (11, false, (fun _ => True), TabQ 0 (setS (setS (U ++ V) ++ setS (U ++ Z))) (joinQ M N ++ joinQ M O)), (12, false, (fun v => v = .bool true), fun _ _ => True)] [13] [3, 4, 7, 10, 11, 12] rfl (by kernel_rfl) (by kernel_rfl) (fun _ _ d _ _ h => by cases d <;> exact h) ?_
  refine wpPre_nil ?_
  repeat (refine wpLoose_step rfl (fun K hK => ?_); (try simp only [Oper.quietAt, Oper.quietUpon]); go_simp; (refine hK _ ?_; clear hK K))
  refine wpLoose_nil ?_
  clear qCA00 qCA01 lCA0 qCA10 qCA11 lCA1 qCA20 qCA21 lCA2 hgc
  refine wpGz_step rfl tabF_ext ⟨undef, trivial⟩ (fun w6 hE6 hS6 => ?_) (fun v3 _ => ?_)
  · simp only [opAt, runsAt]
    go_simp
    refine (unionT _ _ w6 ⟨_, _, rfl, own_low (own_ext OA1_84.out hE6) (Nat.zero_le _)⟩ ⟨_, _, rfl, own_low (own_ext OA2_88.out hE6) (Nat.zero_le _)⟩  TB1.out TB2.out (by omega) (by omega) (by omega) (by omega)).mono ?_
    rintro e w7 ⟨v', rfl, h3, h4⟩
    exact ⟨_, rfl, h4, by obtain ⟨x1, x2, x3, x4⟩ := h3; exact ⟨x1, x2, x3, own_low x4 (Nat.zero_le _)⟩⟩
  refine wpGz_step rfl tabF_ext ⟨undef, trivial⟩ (fun w6 hE6 hS6 => ?_) (fun v4 _ => ?_)
  · simp only [opAt, runsAt]
    go_simp
    refine (joinT _ _ w6 ⟨_, _, rfl, own_low (own_ext OA0_80.out hE6) (Nat.zero_le _)⟩ (hS6 _ (List.mem_cons_self ..) (by kernel_rfl))  TB0.out (tb_both TB1.out TB2.out) (by omega) (by omega) (by omega) (by omega) (by omega)).mono ?_
    rintro e w7 ⟨v', rfl, h3, h4⟩
    exact ⟨_, rfl, h4, by obtain ⟨x1, x2, x3, x4⟩ := h3; exact ⟨x1, x2, x3, own_low x4 (Nat.zero_le _)⟩⟩
  refine wpGz_step rfl tabF_ext ⟨undef, trivial⟩ (fun w6 hE6 hS6 => ?_) (fun v7 _ => ?_)
  · simp only [opAt, runsAt]
    go_simp
    refine (joinT _ _ w6 ⟨_, _, rfl, own_low (own_ext OA0_80.out hE6) (Nat.zero_le _)⟩ ⟨_, _, rfl, own_low (own_ext OA1_84.out hE6) (Nat.zero_le _)⟩  TB0.out TB1.out (by omega) (by omega) (by omega) (by omega) (by omega)).mono ?_
    rintro e w7 ⟨v', rfl, h3, h4⟩
    exact ⟨_, rfl, h4, by obtain ⟨x1, x2, x3, x4⟩ := h3; exact ⟨x1, x2, x3, own_low x4 (Nat.zero_le _)⟩⟩
  refine wpGz_step rfl tabF_ext ⟨undef, trivial⟩ (fun w6 hE6 hS6 => ?_) (fun v10 _ => ?_)
  · simp only [opAt, runsAt]
    go_simp
    refine (joinT _ _ w6 ⟨_, _, rfl, own_low (own_ext OA0_80.out hE6) (Nat.zero_le _)⟩ ⟨_, _, rfl, own_low (own_ext OA2_88.out hE6) (Nat.zero_le _)⟩  TB0.out TB2.out (by omega) (by omega) (by omega) (by omega) (by omega)).mono ?_
    rintro e w7 ⟨v', rfl, h3, h4⟩
    exact ⟨_, rfl, h4, by obtain ⟨x1, x2, x3, x4⟩ := h3; exact ⟨x1, x2, x3, own_low x4 (Nat.zero_le _)⟩⟩
  refine wpGz_step rfl tabF_ext ⟨undef, trivial⟩ (fun w6 hE6 hS6 => ?_) (fun v11 _ => ?_)
  · simp only [opAt, runsAt]
    go_simp
    refine (unionT _ _ w6 (hS6 _ (List.mem_cons_of_mem _ (List.mem_cons_self ..)) (by kernel_rfl)) (hS6 _ (List.mem_cons_self ..) (by kernel_rfl))  (tb_join TB0.out TB1.out) (tb_join TB0.out TB2.out) (by omega) (by omega) (by omega) (by omega)).mono ?_
    rintro e w7 ⟨v', rfl, h3, h4⟩
    exact ⟨_, rfl, h4, by obtain ⟨x1, x2, x3, x4⟩ := h3; exact ⟨x1, x2, x3, own_low x4 (Nat.zero_le _)⟩⟩
  refine wpGz_pure rfl (fun w6 hE6 hS6 => ?_) ?_
  · simp only [opAt, runsAt]
    go_simp
    have hs := sameT _ _ w6 (hS6 _ (List.mem_cons_of_mem _ (List.mem_cons_of_mem _ (List.mem_cons_of_mem _ (List.mem_cons_self ..)))) (by kernel_rfl)) (hS6 _ (List.mem_cons_self ..) (by kernel_rfl)) (tabP_ext HTP.out (ext_trans HE_76.out hE6)) (tb_join TB0.out (tb_both TB1.out TB2.out)) (tb_both (tb_join TB0.out TB1.out) (tb_join TB0.out TB2.out)) (by omega) (by omega) (by omega) (by omega)
    rw [threes_union U V Z M N O] at hs
    refine hs.mono ?_
    rintro e w7 ⟨rfl, h4⟩
    first | exact ⟨rfl, h4⟩ | exact ⟨_, rfl, h4, rfl⟩
  refine wpGz_nil (fun w6 hE6 hS6 => ?_)
  clear hS6 uCA00 uCA01 uCA10 uCA11 uCA20 uCA21
  obtain ⟨w13, hw⟩ : ∃ w, w = w6 := ⟨_, rfl⟩
  subst hw
  have HE_92 := Lib.hid (ext_trans HE_76.out hE6)
  clear HE_76
  have X0_93 := Lib.hid ((ext_block hE6 (block_lt X0_77.out)).trans X0_77.out)
  clear X0_77
  have X1_94 := Lib.hid ((ext_block hE6 (block_lt X1_78.out)).trans X1_78.out)
  clear X1_78
  have X2_95 := Lib.hid ((ext_block hE6 (block_lt X2_79.out)).trans X2_79.out)
  clear X2_79
  have OA0_96 := Lib.hid (own_ext OA0_80.out hE6)
  clear OA0_80
  have TD0_97 := Lib.hid (tD_ext TD0_81.out hE6)
  clear TD0_81
  have CA0_98 := Lib.hid ((ext_block hE6 (block_lt CA0_82.out)).trans CA0_82.out)
  clear CA0_82
  have CM0_99 := Lib.hid ((ext_block hE6 (block_lt CM0_83.out)).trans CM0_83.out)
  clear CM0_83
  have OA1_100 := Lib.hid (own_ext OA1_84.out hE6)
  clear OA1_84
  have TD1_101 := Lib.hid (tD_ext TD1_85.out hE6)
  clear TD1_85
  have CA1_102 := Lib.hid ((ext_block hE6 (block_lt CA1_86.out)).trans CA1_86.out)
  clear CA1_86
  have CM1_103 := Lib.hid ((ext_block hE6 (block_lt CM1_87.out)).trans CM1_87.out)
  clear CM1_87
  have OA2_104 := Lib.hid (own_ext OA2_88.out hE6)
  clear OA2_88
  have TD2_105 := Lib.hid (tD_ext TD2_89.out hE6)
  clear TD2_89
  have CA2_106 := Lib.hid ((ext_block hE6 (block_lt CA2_90.out)).trans CA2_90.out)
  clear CA2_90
  have CM2_107 := Lib.hid ((ext_block hE6 (block_lt CM2_91.out)).trans CM2_91.out)
  clear CM2_91
  clear hE6
  refine wpSeq_of_list [13] [_] _ _ rfl ?_
  go_wp2
  refine bodyPost_ret (results_tmp rfl _ _ _) rfl ?_
  exact ⟨rfl, HE_92.out⟩
end Go.Proofs.YtniggdaakiofeaaDoor
