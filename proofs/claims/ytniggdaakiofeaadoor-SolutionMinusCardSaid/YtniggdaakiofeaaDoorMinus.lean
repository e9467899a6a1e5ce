/- SolutionMinus: a table but for the rows of another one is the document's; both are the same just if neither has more. Condition: the listed tables of Go's library start as its text lays them (tied by the card). -/
import Derived.Test.YtniggdaakiofeaaDoorSu
import Derived.Test.YtniggdaakiofeaaDoorYd
import Derived.Test.YtniggdaakiofeaaDoorCards
import Derived.ChangeOld
import Derived.Below
import Derived.OpenShut
import Derived.Stop.Joined
import Derived.Lib.SmallJoins
import Derived.Test.YtniggdaakiofeaaDoorMi
namespace Go.Proofs.YtniggdaakiofeaaDoor
open Go Go.RowKit Go.Sort
set_option maxHeartbeats 20000000

/- of this seat alone: 80 -/
theorem minusTE {n m n' m' H H' : Nat} (av bv : Value) {U : List ByteArray} {M N S : List (List VarN)} (w : World) (ha : TabQ H U M av w) (hb : TabQ H' U N bv w) (hT : TabP w) (hS : S = minusQ N M) (a : Tb n m U M) (b : Tb n' m' U N) (h1 : n ≤ 100) (h2 : n' ≤ 100) (h3 : m ≤ 1000) (h4 : m' ≤ 1000) :
    Calls Tryd.prog 20 #[av, bv] w fun e w' => ∃ v', e = .returned v' ∧ TabQ w.heap.size U S v' w' ∧ Ext w w' := by
  rw [hS]
  exact minusTS av bv w ha hb hT a b h1 h2 h3 h4
theorem same_minusI {U : List ByteArray} {M N L R : List (List VarN)} (hM : IsQ U M) (hN : IsQ U N) (hL : L = minusQ N M) (hR : R = minusQ M N) : sameB U U (rowsD U M) (rowsD U N) = decide ((L.length : Int) + (R.length : Int) = 0) := by
  rw [same_minus hM hN, hL, hR, Bool.eq_iff_iff, decide_eq_true_iff, decide_eq_true_iff]
  omega
theorem unionTN {n m n' m' H H' : Nat} (av bv : Value) {U : List ByteArray} {M : List (List VarN)} (w : World) (ha : TabQ H U M av w) (hb : TabQ H' U [] bv w) (a : Tb n m U M) (b : Tb n' m' U []) (h1 : n ≤ 100) (h2 : n' ≤ 100) (h3 : m ≤ 100000) (h4 : m' ≤ 100000) :
    Calls Tryd.prog 13 #[av, bv] w fun e w' => ∃ v', e = .returned v' ∧ TabQ w.heap.size U M v' w' ∧ Ext w w' := by
  have h := unionT av bv w ha hb a b h1 h2 h3 h4
  rwa [set_self2 U a.q.rise, List.append_nil] at h
set_option maxRecDepth 100000 in
theorem minus_law (v0 : Value) (v1 : Value) (xs : List Nat) (rs : List (List Nat)) (ys : List Nat) (ss : List (List Nat)) (w : World) (h0 : RawV w v0 xs rs) (h1 : RawV w v1 ys ss) (l0 : xs.length ≤ maxLen) (m0 : rs.length ≤ maxLen) (n0 : ∀ r ∈ rs, r.length ≤ maxLen) (l1 : ys.length ≤ maxLen) (m1 : ss.length ≤ maxLen) (n1 : ∀ r ∈ ss, r.length ≤ maxLen) (hT : TabP w) :
    Calls Tryd.prog 4 #[v0, v1] w fun e w' => e = .returned (.bool true) ∧ Ext w w' := by
  have hml : maxLen ≤ 9223372036854775807 := by decide
  have F0 := Lib.hid (fun w' (hE : Ext w w') => few_any v0 xs rs w' (rawV_ext h0 hE) (Nat.le_trans l0 hml) (Nat.le_trans m0 hml) (fun r hr => Nat.le_trans (n0 r hr) hml))
  have HR0 := Lib.hid h0
  obtain ⟨a0, d0, rfl, p0, q0⟩ := h0
  obtain ⟨A0, c0, rfl⟩ := rdU_form p0
  obtain ⟨B0, e0, rfl⟩ := rdUU_form q0
  clear p0 q0 l0 m0 n0
  have F1 := Lib.hid (fun w' (hE : Ext w w') => few_any v1 ys ss w' (rawV_ext h1 hE) (Nat.le_trans l1 hml) (Nat.le_trans m1 hml) (fun r hr => Nat.le_trans (n1 r hr) hml))
  have HR1 := Lib.hid h1
  obtain ⟨a1, d1, rfl, p1, q1⟩ := h1
  obtain ⟨A1, c1, rfl⟩ := rdU_form p1
  obtain ⟨B1, e1, rfl⟩ := rdUU_form q1
  clear p1 q1 l1 m1 n1
  clear hml
  have HE_1 := Lib.hid (ext_refl w)
  have HTP := Lib.hid hT
  clear hT
  go_enter Tryd.func4, Tryd.ntmps4
  go_wp2_with fail
  refine (awake_any _).mono ?_
  rintro e w1 ⟨rfl, hE⟩
  obtain ⟨hE, g0, g1⟩ := ext2 hE
  have HE_2 := Lib.hid (ext_trans HE_1.out hE)
  clear HE_1
  obtain ⟨bx0, hbx0⟩ : ∃ bx0, bx0 = w.heap.size := ⟨_, rfl⟩
  obtain ⟨bx1, hbx1⟩ : ∃ bx1, bx1 = w.heap.size + 1 := ⟨_, rfl⟩
  try rw [← hbx1]
  rw [← hbx1] at g1
  try rw [← hbx0]
  rw [← hbx0] at g0
  have X0_3 := Lib.hid (show w1.heap[bx0]? = some (.cells #[.slice A0 xs.length c0, .slice B0 rs.length e0] 25 (0, 0)) from g0)
  have Sbx0 := Lib.hid hbx0
  clear g0 hbx0
  have X1_4 := Lib.hid (show w1.heap[bx1]? = some (.cells #[.slice A1 ys.length c1, .slice B1 ss.length e1] 25 (0, 0)) from g1)
  have Sbx1 := Lib.hid hbx1
  clear g1 hbx1
  clear hE
  have qX00 : w1.cell? ⟨bx0, 0, none⟩ = some (.slice A0 xs.length c0) := block_cell X0_3.out 0
  have qX01 : w1.cell? ⟨bx0, 1, none⟩ = some (.slice B0 rs.length e0) := block_cell X0_3.out 1
  have lX0 := block_lt X0_3.out
  go_wp2_with fail
  clear qX00 qX01 lX0
  refine (F0.out _ HE_2.out).mono ?_
  rintro e w2 ⟨rfl, hE⟩
  have HE_5 := Lib.hid (ext_trans HE_2.out hE)
  clear HE_2
  have X0_6 := Lib.hid ((ext_block hE (block_lt X0_3.out)).trans X0_3.out)
  clear X0_3
  have X1_7 := Lib.hid ((ext_block hE (block_lt X1_4.out)).trans X1_4.out)
  clear X1_4
  clear hE
  obtain ⟨f0, hf0⟩ : ∃ f, f = fewB xs rs := ⟨_, rfl⟩
  rw [← hf0]
  have HF0 := Lib.hid hf0
  clear hf0
  cases f0
  · skip
    go_wp2_with fail
    refine (awake_any _).mono ?_
    rintro e w3 ⟨rfl, hE⟩
    have HE_8 := Lib.hid (ext_trans HE_5.out hE)
    clear HE_5
    have X0_9 := Lib.hid ((ext_block hE (block_lt X0_6.out)).trans X0_6.out)
    clear X0_6
    have X1_10 := Lib.hid ((ext_block hE (block_lt X1_7.out)).trans X1_7.out)
    clear X1_7
    clear hE
    go_wp2
    refine bodyPost_ret (results_tmp rfl _ _ _) rfl ?_
    exact ⟨rfl, HE_8.out⟩
  have qX10 : w2.cell? ⟨bx1, 0, none⟩ = some (.slice A1 ys.length c1) := block_cell X1_7.out 0
  have qX11 : w2.cell? ⟨bx1, 1, none⟩ = some (.slice B1 ss.length e1) := block_cell X1_7.out 1
  have lX1 := block_lt X1_7.out
  go_wp2_with fail
  clear qX10 qX11 lX1
  refine (F1.out _ HE_5.out).mono ?_
  rintro e w4 ⟨rfl, hE⟩
  have HE_11 := Lib.hid (ext_trans HE_5.out hE)
  clear HE_5
  have X0_12 := Lib.hid ((ext_block hE (block_lt X0_6.out)).trans X0_6.out)
  clear X0_6
  have X1_13 := Lib.hid ((ext_block hE (block_lt X1_7.out)).trans X1_7.out)
  clear X1_7
  clear hE
  obtain ⟨f1, hf1⟩ : ∃ f, f = fewB ys ss := ⟨_, rfl⟩
  rw [← hf1]
  have HF1 := Lib.hid hf1
  clear hf1
  cases f1
  · skip
    go_wp2_with fail
    refine (awake_any _).mono ?_
    rintro e w5 ⟨rfl, hE⟩
    have HE_14 := Lib.hid (ext_trans HE_11.out hE)
    clear HE_11
    have X0_15 := Lib.hid ((ext_block hE (block_lt X0_12.out)).trans X0_12.out)
    clear X0_12
    have X1_16 := Lib.hid ((ext_block hE (block_lt X1_13.out)).trans X1_13.out)
    clear X1_13
    clear hE
    go_wp2
    refine bodyPost_ret (results_tmp rfl _ _ _) rfl ?_
    exact ⟨rfl, HE_14.out⟩
  obtain ⟨U, hU⟩ : ∃ U, U = setS (namesOf xs) := ⟨_, rfl⟩
  have DU := Lib.hid hU
  clear hU
  obtain ⟨M, hM⟩ : ∃ M, M = docT xs rs := ⟨_, rfl⟩
  have IT0 := Lib.hid (show IsT U M by rw [DU.out, hM]; exact isT_of (HF0.out.symm))
  have DM := Lib.hid hM
  clear hM
  have qX00 : w4.cell? ⟨bx0, 0, none⟩ = some (.slice A0 xs.length c0) := block_cell X0_12.out 0
  have qX01 : w4.cell? ⟨bx0, 1, none⟩ = some (.slice B0 rs.length e0) := block_cell X0_12.out 1
  have lX0 := block_lt X0_12.out
  go_wp2_with fail
  clear qX00 qX01 lX0
  refine (build_spec _ xs rs U M _ DU.out DM.out (rawV_ext (HR0.out) HE_11.out) (HF0.out.symm)).mono ?_
  rintro e w6 ⟨P0, i0, Q0, j0, D0, k0, G0, o0, rfl, how, htd, hE⟩
  have HE_17 := Lib.hid (ext_trans HE_11.out hE)
  clear HE_11
  have X0_18 := Lib.hid ((ext_block hE (block_lt X0_12.out)).trans X0_12.out)
  clear X0_12
  have X1_19 := Lib.hid ((ext_block hE (block_lt X1_13.out)).trans X1_13.out)
  clear X1_13
  clear hE
  have bu0 : U.length ≤ 5 := IT0.out.vars
  have br0 : M.length ≤ 8 := IT0.out.rows
  have OA0_20 := Lib.hid (how)
  have TD0_21 := Lib.hid (htd)
  clear how htd
  obtain ⟨N, hN⟩ : ∃ M, M = docT xs ss := ⟨_, rfl⟩
  have IT1 := Lib.hid (show IsT U N by rw [DU.out, hN]; exact isT_of (few_mix HF0.out HF1.out))
  have DN := Lib.hid hN
  clear hN
  have qX00 : w6.cell? ⟨bx0, 0, none⟩ = some (.slice A0 xs.length c0) := block_cell X0_18.out 0
  have qX01 : w6.cell? ⟨bx0, 1, none⟩ = some (.slice B0 rs.length e0) := block_cell X0_18.out 1
  have lX0 := block_lt X0_18.out
  have qX10 : w6.cell? ⟨bx1, 0, none⟩ = some (.slice A1 ys.length c1) := block_cell X1_19.out 0
  have qX11 : w6.cell? ⟨bx1, 1, none⟩ = some (.slice B1 ss.length e1) := block_cell X1_19.out 1
  have lX1 := block_lt X1_19.out
  go_wp2_with fail
  clear qX00 qX01 lX0 qX10 qX11 lX1
  refine (build_spec _ xs ss U N _ DU.out DN.out (rawV_ext (rawV_mix HR0.out HR1.out) (ext_trans HE_17.out (ext_alloc (ext_alloc (ext_refl _) _) _))) (few_mix HF0.out HF1.out)).mono ?_
  rintro e w7 ⟨P1, i1, Q1, j1, D1, k1, G1, o1, rfl, how, htd, hE⟩
  obtain ⟨hE, g0, g1⟩ := ext2 hE
  have HE_22 := Lib.hid (ext_trans HE_17.out hE)
  clear HE_17
  have X0_23 := Lib.hid ((ext_block hE (block_lt X0_18.out)).trans X0_18.out)
  clear X0_18
  have X1_24 := Lib.hid ((ext_block hE (block_lt X1_19.out)).trans X1_19.out)
  clear X1_19
  have OA0_25 := Lib.hid (own_ext OA0_20.out hE)
  clear OA0_20
  have TD0_26 := Lib.hid (tD_ext TD0_21.out hE)
  clear TD0_21
  obtain ⟨ca0, hca0⟩ : ∃ ca0, ca0 = w6.heap.size := ⟨_, rfl⟩
  obtain ⟨cm0, hcm0⟩ : ∃ cm0, cm0 = w6.heap.size + 1 := ⟨_, rfl⟩
  try rw [← hcm0]
  rw [← hcm0] at g1
  try rw [← hca0]
  rw [← hca0] at g0
  have CA0_27 := Lib.hid (show w7.heap[ca0]? = some (.cells #[.slice P0 U.length i0, .slice Q0 M.length j0] 31 (0, 0)) from g0)
  have Sca0 := Lib.hid hca0
  clear g0 hca0
  have CM0_28 := Lib.hid (show w7.heap[cm0]? = some (.cells #[.slice D0 U.length k0, .slice G0 M.length o0] 34 (0, 0)) from g1)
  have Scm0 := Lib.hid hcm0
  clear g1 hcm0
  clear hE
  have bu1 : U.length ≤ 5 := IT1.out.vars
  have br1 : N.length ≤ 8 := IT1.out.rows
  have OA1_29 := Lib.hid (how)
  have TD1_30 := Lib.hid (htd)
  clear how htd
  obtain ⟨V, hV⟩ : ∃ U, U = setS (namesOf ys) := ⟨_, rfl⟩
  have DV := Lib.hid hV
  clear hV
  obtain ⟨O, hO⟩ : ∃ M, M = docT ys ss := ⟨_, rfl⟩
  have IT2 := Lib.hid (show IsT V O by rw [DV.out, hO]; exact isT_of (HF1.out.symm))
  have DO := Lib.hid hO
  clear hO
  have qX10 : w7.cell? ⟨bx1, 0, none⟩ = some (.slice A1 ys.length c1) := block_cell X1_24.out 0
  have qX11 : w7.cell? ⟨bx1, 1, none⟩ = some (.slice B1 ss.length e1) := block_cell X1_24.out 1
  have lX1 := block_lt X1_24.out
  go_wp2_with fail
  clear qX10 qX11 lX1
  refine (build_spec _ ys ss V O _ DV.out DO.out (rawV_ext (HR1.out) (ext_trans HE_22.out (ext_alloc (ext_alloc (ext_refl _) _) _))) (HF1.out.symm)).mono ?_
  rintro e w8 ⟨P2, i2, Q2, j2, D2, k2, G2, o2, rfl, how, htd, hE⟩
  obtain ⟨hE, g0, g1⟩ := ext2 hE
  have HE_31 := Lib.hid (ext_trans HE_22.out hE)
  clear HE_22
  have X0_32 := Lib.hid ((ext_block hE (block_lt X0_23.out)).trans X0_23.out)
  clear X0_23
  have X1_33 := Lib.hid ((ext_block hE (block_lt X1_24.out)).trans X1_24.out)
  clear X1_24
  have OA0_34 := Lib.hid (own_ext OA0_25.out hE)
  clear OA0_25
  have TD0_35 := Lib.hid (tD_ext TD0_26.out hE)
  clear TD0_26
  have CA0_36 := Lib.hid ((ext_block hE (block_lt CA0_27.out)).trans CA0_27.out)
  clear CA0_27
  have CM0_37 := Lib.hid ((ext_block hE (block_lt CM0_28.out)).trans CM0_28.out)
  clear CM0_28
  have OA1_38 := Lib.hid (own_ext OA1_29.out hE)
  clear OA1_29
  have TD1_39 := Lib.hid (tD_ext TD1_30.out hE)
  clear TD1_30
  obtain ⟨ca1, hca1⟩ : ∃ ca1, ca1 = w7.heap.size := ⟨_, rfl⟩
  obtain ⟨cm1, hcm1⟩ : ∃ cm1, cm1 = w7.heap.size + 1 := ⟨_, rfl⟩
  try rw [← hcm1]
  rw [← hcm1] at g1
  try rw [← hca1]
  rw [← hca1] at g0
  have CA1_40 := Lib.hid (show w8.heap[ca1]? = some (.cells #[.slice P1 U.length i1, .slice Q1 N.length j1] 31 (0, 0)) from g0)
  have Sca1 := Lib.hid hca1
  clear g0 hca1
  have CM1_41 := Lib.hid (show w8.heap[cm1]? = some (.cells #[.slice D1 U.length k1, .slice G1 N.length o1] 34 (0, 0)) from g1)
  have Scm1 := Lib.hid hcm1
  clear g1 hcm1
  clear hE
  have bu2 : V.length ≤ 5 := IT2.out.vars
  have br2 : O.length ≤ 8 := IT2.out.rows
  have OA2_42 := Lib.hid (how)
  have TD2_43 := Lib.hid (htd)
  clear how htd
  have TB0 := Lib.hid (tb_isT IT0.out DM.out)
  have TB1 := Lib.hid (tb_isT IT1.out DN.out)
  have TB2 := Lib.hid (tb_isT IT2.out DO.out)
  go_wp2
  obtain ⟨W9, hW⟩ : ∃ W, W = (w8.alloc (.cells #[.slice P2 V.length i2, .slice Q2 O.length j2] 31)).alloc (.cells #[.slice D2 V.length k2, .slice G2 O.length o2] 34) := ⟨_, rfl⟩
  have hE : Ext w8 W9 := by rw [hW]; exact ext_alloc (ext_alloc (ext_refl _) _) _
  obtain ⟨ca2, hca2⟩ : ∃ b, b = w8.heap.size := ⟨_, rfl⟩
  obtain ⟨cm2, hcm2⟩ : ∃ b, b = w8.heap.size + 1 := ⟨_, rfl⟩
  have g0 : W9.heap[ca2]? = some (.cells #[.slice P2 V.length i2, .slice Q2 O.length j2] 31 (0, 0)) := by rw [hW, hca2]; exact (heap_two w8 (.cells #[.slice P2 V.length i2, .slice Q2 O.length j2] 31) (.cells #[.slice D2 V.length k2, .slice G2 O.length o2] 34)).1
  have g1 : W9.heap[cm2]? = some (.cells #[.slice D2 V.length k2, .slice G2 O.length o2] 34 (0, 0)) := by rw [hW, hcm2]; exact (heap_two w8 (.cells #[.slice P2 V.length i2, .slice Q2 O.length j2] 31) (.cells #[.slice D2 V.length k2, .slice G2 O.length o2] 34)).2
  have Sca2 := Lib.hid hca2
  have Scm2 := Lib.hid hcm2
  try rw [← hW]
  try rw [← hcm2]
  try rw [← hca2]
  have HE_44 := Lib.hid (ext_trans HE_31.out hE)
  clear HE_31
  have X0_45 := Lib.hid ((ext_block hE (block_lt X0_32.out)).trans X0_32.out)
  clear X0_32
  have X1_46 := Lib.hid ((ext_block hE (block_lt X1_33.out)).trans X1_33.out)
  clear X1_33
  have OA0_47 := Lib.hid (own_ext OA0_34.out hE)
  clear OA0_34
  have TD0_48 := Lib.hid (tD_ext TD0_35.out hE)
  clear TD0_35
  have CA0_49 := Lib.hid ((ext_block hE (block_lt CA0_36.out)).trans CA0_36.out)
  clear CA0_36
  have CM0_50 := Lib.hid ((ext_block hE (block_lt CM0_37.out)).trans CM0_37.out)
  clear CM0_37
  have OA1_51 := Lib.hid (own_ext OA1_38.out hE)
  clear OA1_38
  have TD1_52 := Lib.hid (tD_ext TD1_39.out hE)
  clear TD1_39
  have CA1_53 := Lib.hid ((ext_block hE (block_lt CA1_40.out)).trans CA1_40.out)
  clear CA1_40
  have CM1_54 := Lib.hid ((ext_block hE (block_lt CM1_41.out)).trans CM1_41.out)
  clear CM1_41
  have OA2_55 := Lib.hid (own_ext OA2_42.out hE)
  clear OA2_42
  have TD2_56 := Lib.hid (tD_ext TD2_43.out hE)
  clear TD2_43
  have CA2_57 := Lib.hid (show W9.heap[ca2]? = some (.cells #[.slice P2 V.length i2, .slice Q2 O.length j2] 31 (0, 0)) from g0)
  clear g0 hca2
  have CM2_58 := Lib.hid (show W9.heap[cm2]? = some (.cells #[.slice D2 V.length k2, .slice G2 O.length o2] 34 (0, 0)) from g1)
  clear g1 hcm2
  clear hE hW
  have qCM00 : W9.cell? ⟨cm0, 0, none⟩ = some (.slice D0 U.length k0) := block_cell CM0_50.out 0
  have qCM01 : W9.cell? ⟨cm0, 1, none⟩ = some (.slice G0 M.length o0) := block_cell CM0_50.out 1
  have lCM0 := block_lt CM0_50.out
  have qCM10 : W9.cell? ⟨cm1, 0, none⟩ = some (.slice D1 U.length k1) := block_cell CM1_54.out 0
  have qCM11 : W9.cell? ⟨cm1, 1, none⟩ = some (.slice G1 N.length o1) := block_cell CM1_54.out 1
  have lCM1 := block_lt CM1_54.out
  have hgc := cell_grown
  have uCM00 : ∀ w', Ext W9 w' → w'.cell? ⟨cm0, 0, none⟩ = some (.slice D0 U.length k0) := fun w' hE => (ext_cell hE _ _ lCM0).trans qCM00
  have uCM01 : ∀ w', Ext W9 w' → w'.cell? ⟨cm0, 1, none⟩ = some (.slice G0 M.length o0) := fun w' hE => (ext_cell hE _ _ lCM0).trans qCM01
  have uCM10 : ∀ w', Ext W9 w' → w'.cell? ⟨cm1, 0, none⟩ = some (.slice D1 U.length k1) := fun w' hE => (ext_cell hE _ _ lCM1).trans qCM10
  have uCM11 : ∀ w', Ext W9 w' → w'.cell? ⟨cm1, 1, none⟩ = some (.slice G1 N.length o1) := fun w' hE => (ext_cell hE _ _ lCM1).trans qCM11
  refine wp_region_each [] [0, 1, 3, 4] [(2, false, (fun _ => True), fun v w' => TD w' v U (minusQ N M)), (5, false, (fun _ => True), fun v w' => TD w' v U (minusQ M N)), (6, true, (fun v => ∃ g, v = .pointer (some ⟨g, 0, none⟩)), CellT W9.heap.size), (7, true, (fun v => ∃ g, v = .pointer (some ⟨g, 0, none⟩)), CellT W9.heap.size)] [8, 9] [2, 5, 6, 7] rfl (by kernel_rfl) (by kernel_rfl) (fun _ _ d _ _ h => by cases d <;> exact h) ?_
  refine wpPre_nil ?_
  repeat (refine wpLoose_step rfl (fun K hK => ?_); (try simp only [Oper.quietAt, Oper.quietUpon]); go_simp; (refine hK _ ?_; clear hK K))
  refine wpLoose_nil ?_
  clear qCM00 qCM01 lCM0 qCM10 qCM11 lCM1 hgc
  refine wpGz_step1 rfl (fun v a b hE h => tD_ext h hE) ⟨undef, trivial⟩ (fun w6 hE6 hS6 => ?_) (fun v2 _ K hK => ?_)
  · simp only [opAt, runsAt]
    go_simp
    refine (rminusS _ _ w6 (tD_ext TD0_48.out hE6) (tD_ext TD1_52.out hE6)  TB0.out TB1.out (by omega) (by omega) (by omega) (by omega)).mono ?_
    rintro e w7 ⟨v', rfl, h3, h4⟩
    exact ⟨_, rfl, h4, h3⟩
  go_simp
  refine hK _ ?_
  clear hK K
  refine wpGz_step1 rfl (fun v a b hE h => tD_ext h hE) ⟨undef, trivial⟩ (fun w6 hE6 hS6 => ?_) (fun v5 _ K hK => ?_)
  · simp only [opAt, runsAt]
    go_simp
    refine (rminusS _ _ w6 (tD_ext TD1_52.out hE6) (tD_ext TD0_48.out hE6)  TB1.out TB0.out (by omega) (by omega) (by omega) (by omega)).mono ?_
    rintro e w7 ⟨v', rfl, h3, h4⟩
    exact ⟨_, rfl, h4, h3⟩
  go_simp
  refine hK _ ?_
  clear hK K
  refine wpGz_fresh rfl cellT_ext (fun w6 hE6 hS6 => ?_) (fun g6 => ?_)
  · simp only [opAt, runsAt]
    go_simp
    exact ⟨ext_alloc (ext_refl _) _, ⟨w6.heap.size, rfl, Nat.le_refl _, by simp⟩, w6.heap.size, rfl, ext_size hE6, heap_alloc_new w6 _⟩
  refine wpGz_fresh rfl cellT_ext (fun w6 hE6 hS6 => ?_) (fun g7 => ?_)
  · simp only [opAt, runsAt]
    go_simp
    exact ⟨ext_alloc (ext_refl _) _, ⟨w6.heap.size, rfl, Nat.le_refl _, by simp⟩, w6.heap.size, rfl, ext_size hE6, heap_alloc_new w6 _⟩
  refine wpGz_nil (fun w6 hE6 hS6 => ?_)
  have h2 : TD w6 v2 U (minusQ N M) := hS6.1 _ (List.mem_cons_of_mem _ (List.mem_cons_of_mem _ (List.mem_cons_of_mem _ (List.mem_cons_self ..))))
  have h5 : TD w6 v5 U (minusQ M N) := hS6.1 _ (List.mem_cons_of_mem _ (List.mem_cons_of_mem _ (List.mem_cons_self ..)))
  obtain ⟨g6', e6, k6, f6⟩ : CellT W9.heap.size (.pointer (some ⟨g6, 0, none⟩)) w6 := hS6.1 _ (List.mem_cons_of_mem _ (List.mem_cons_self ..))
  obtain ⟨g7', e7, k7, f7⟩ : CellT W9.heap.size (.pointer (some ⟨g7, 0, none⟩)) w6 := hS6.1 _ (List.mem_cons_self ..)
  simp only [Value.pointer.injEq, Option.some.injEq, Addr.mk.injEq, and_true] at e6 e7
  subst e6 e7
  have hne : g6 ≠ g7 := fun e => hS6.2 _ (List.mem_cons_of_mem _ (List.mem_cons_self ..)) _ (List.mem_cons_self ..) rfl rfl (show (6 : Nat) ≠ 7 by decide) (by rw [e])
  clear hS6 uCM00 uCM01 uCM10 uCM11
  obtain ⟨LM, hLM⟩ : ∃ J, J = minusQ N M := ⟨_, rfl⟩
  obtain ⟨RM, hRM⟩ : ∃ J, J = minusQ M N := ⟨_, rfl⟩
  have DLM := Lib.hid hLM
  have DRM := Lib.hid hRM
  rw [← hLM] at h2
  rw [← hRM] at h5
  have TBL := Lib.hid (show Tb 5 8 U LM by rw [hLM]; exact tb_minus TB0.out N)
  have TBR := Lib.hid (show Tb 5 8 U RM by rw [hRM]; exact tb_minus TB1.out M)
  clear hLM hRM
  obtain ⟨A2, c2, B2, d2, rfl⟩ := tDM_form h2
  obtain ⟨A5, c5, B5, d5, rfl⟩ := tDM_form h5
  have H2 := Lib.hid h2
  have H5 := Lib.hid h5
  have F6 := Lib.hid f6
  have F7 := Lib.hid f7
  have HK := Lib.hid (show W9.heap.size ≤ g6 ∧ W9.heap.size ≤ g7 from ⟨k6, k7⟩)
  have HNE := Lib.hid hne
  have HE6 := Lib.hid hE6
  have p0 : w6.cell? ⟨g6, 0, none⟩ = some (.slice none 0 0) := block_cell f6 0
  have p1 : w6.cell? ⟨g6, 1, none⟩ = some (.slice none 0 0) := block_cell f6 1
  have p2 : w6.cell? ⟨g7, 0, none⟩ = some (.slice none 0 0) := block_cell f7 0
  have p3 : w6.cell? ⟨g7, 1, none⟩ = some (.slice none 0 0) := block_cell f7 1
  have s0 : w6.frozen? ⟨g6, 0, none⟩ = false := block_frozen f6 0
  have s1 : w6.frozen? ⟨g6, 1, none⟩ = false := block_frozen f6 1
  have s2 : w6.frozen? ⟨g7, 0, none⟩ = false := block_frozen f7 0
  have s3 : w6.frozen? ⟨g7, 1, none⟩ = false := block_frozen f7 1
  have t6 := block_lt f6
  have t7 := block_lt f7
  have z0 : ∀ a b, ((w6.setCell ⟨g6, 0, none⟩ a).setCell ⟨g6, 1, none⟩ b).cell? ⟨g7, 0, none⟩ = some (.slice none 0 0) := fun a b => (upd_cell (upd_trans (fp := fun q => q = g6) (upd_setCell (w := w6) (a := ⟨g6, 0, none⟩) a) (upd_setCell (a := ⟨g6, 1, none⟩) b) (fun _ _ h => h)) t7 (fun e => hne e.symm) 0).trans p2
  have z1 : ∀ a b, ((w6.setCell ⟨g6, 0, none⟩ a).setCell ⟨g6, 1, none⟩ b).cell? ⟨g7, 1, none⟩ = some (.slice none 0 0) := fun a b => (upd_cell (upd_trans (fp := fun q => q = g6) (upd_setCell (w := w6) (a := ⟨g6, 0, none⟩) a) (upd_setCell (a := ⟨g6, 1, none⟩) b) (fun _ _ h => h)) t7 (fun e => hne e.symm) 1).trans p3
  clear h2 h5 f6 f7 k6 k7 hE6
  refine wpSeq_of_list [8, 9] [_, _] _ _ rfl ?_
  go_wp2
  
  obtain ⟨W10, hW⟩ : ∃ W, W = (((w6.setCell ⟨g6, 0, none⟩ (.slice A2 U.length c2)).setCell ⟨g6, 1, none⟩ (.slice B2 LM.length d2)).setCell ⟨g7, 0, none⟩ (.slice A5 U.length c5)).setCell ⟨g7, 1, none⟩ (.slice B5 RM.length d5) := ⟨_, rfl⟩
  rw [← hW]
  have hU1 : Upd (fun q => q = g6) w6 ((w6.setCell ⟨g6, 0, none⟩ (.slice A2 U.length c2)).setCell ⟨g6, 1, none⟩ (.slice B2 LM.length d2)) := upd_trans (fp := fun q => q = g6) (upd_setCell (w := w6) (a := ⟨g6, 0, none⟩) _) (upd_setCell (a := ⟨g6, 1, none⟩) _) (fun _ _ h => h)
  have hU2 : Upd (fun q => q = g7) ((w6.setCell ⟨g6, 0, none⟩ (.slice A2 U.length c2)).setCell ⟨g6, 1, none⟩ (.slice B2 LM.length d2)) W10 := by rw [hW]; exact upd_trans (fp := fun q => q = g7) (upd_setCell (a := ⟨g7, 0, none⟩) _) (upd_setCell (a := ⟨g7, 1, none⟩) _) (fun _ _ h => h)
  have hUW : Upd (fun q => q = g6 ∨ q = g7) w6 W10 := upd_trans (upd_mono hU1 (fun _ _ h => .inl h)) hU2 (fun _ _ h => .inr h)
  have hcj1 := heap_setCell_at (j := 1) (u := .slice B2 LM.length d2) (heap_setCell_at (j := 0) (u := .slice A2 U.length c2) F6.out)
  have hcj : W10.heap[g6]? = some (.cells #[.slice A2 U.length c2, .slice B2 LM.length d2] 34 (0, 0)) := (hU2.block g6 (block_lt hcj1) HNE.out).trans hcj1
  have hcu0 := (hU1.block g7 (block_lt F7.out) (fun e => HNE.out e.symm)).trans F7.out
  have hcu : W10.heap[g7]? = some (.cells #[.slice A5 U.length c5, .slice B5 RM.length d5] 34 (0, 0)) := by rw [hW]; exact heap_setCell_at (j := 1) (u := .slice B5 RM.length d5) (heap_setCell_at (j := 0) (u := .slice A5 U.length c5) hcu0)
  have hty : ∀ b, (b = g6 ∨ b = g7) → ∀ cur t, w6.heap[b]? = some (.cells cur t (0, 0)) → t ≠ 9 ∧ t ≠ 52 ∧ t ≠ 81 := fun b hb cur t hbt => by
    have h : t = 34 := by
      rcases hb with rfl | rfl
      · rw [F6.out] at hbt
        simp only [Option.some.injEq, Obj.cells.injEq] at hbt
        exact hbt.2.1.symm
      · rw [F7.out] at hbt
        simp only [Option.some.injEq, Obj.cells.injEq] at hbt
        exact hbt.2.1.symm
    rw [h]
    decide
  have hoj := tD_off H2.out hUW hty
  have hou := tD_off H5.out hUW hty
  have hEW : Ext W9 W10 := ext_upd HE6.out hUW (fun b hb => by have := HK.out; rcases hb with rfl | rfl <;> omega)
  clear hW hU1 hU2 hUW hcj1 hcu0 hty p0 p1 p2 p3 s0 s1 s2 s3 t6 t7 z0 z1 H2 H5 F6 F7 HK HNE HE6
  have HE_59 := Lib.hid (ext_trans HE_44.out hEW)
  clear HE_44
  have X0_60 := Lib.hid ((ext_block hEW (block_lt X0_45.out)).trans X0_45.out)
  clear X0_45
  have X1_61 := Lib.hid ((ext_block hEW (block_lt X1_46.out)).trans X1_46.out)
  clear X1_46
  have OA0_62 := Lib.hid (own_ext OA0_47.out hEW)
  clear OA0_47
  have TD0_63 := Lib.hid (tD_ext TD0_48.out hEW)
  clear TD0_48
  have CA0_64 := Lib.hid ((ext_block hEW (block_lt CA0_49.out)).trans CA0_49.out)
  clear CA0_49
  have CM0_65 := Lib.hid ((ext_block hEW (block_lt CM0_50.out)).trans CM0_50.out)
  clear CM0_50
  have OA1_66 := Lib.hid (own_ext OA1_51.out hEW)
  clear OA1_51
  have TD1_67 := Lib.hid (tD_ext TD1_52.out hEW)
  clear TD1_52
  have CA1_68 := Lib.hid ((ext_block hEW (block_lt CA1_53.out)).trans CA1_53.out)
  clear CA1_53
  have CM1_69 := Lib.hid ((ext_block hEW (block_lt CM1_54.out)).trans CM1_54.out)
  clear CM1_54
  have OA2_70 := Lib.hid (own_ext OA2_55.out hEW)
  clear OA2_55
  have TD2_71 := Lib.hid (tD_ext TD2_56.out hEW)
  clear TD2_56
  have CA2_72 := Lib.hid ((ext_block hEW (block_lt CA2_57.out)).trans CA2_57.out)
  clear CA2_57
  have CM2_73 := Lib.hid ((ext_block hEW (block_lt CM2_58.out)).trans CM2_58.out)
  clear CM2_58
  have CL_74 := Lib.hid (show W10.heap[g6]? = some (.cells #[.slice A2 U.length c2, .slice B2 LM.length d2] 34 (0, 0)) from hcj)
  have CR_75 := Lib.hid (show W10.heap[g7]? = some (.cells #[.slice A5 U.length c5, .slice B5 RM.length d5] 34 (0, 0)) from hcu)
  have TDL_76 := Lib.hid (hoj)
  have TDR_77 := Lib.hid (hou)
  clear hEW hcj hcu hoj hou
  have hll : LM.length ≤ 8 := TBL.out.rows
  have hrl : RM.length ≤ 8 := TBR.out.rows
  have hwr : IntKind.i64.wrap ((LM.length : Int) + (RM.length : Int)) = (LM.length : Int) + (RM.length : Int) := IntWalk.i64_in _ (by omega)
  have qCA00 : W10.cell? ⟨ca0, 0, none⟩ = some (.slice P0 U.length i0) := block_cell CA0_64.out 0
  have qCA01 : W10.cell? ⟨ca0, 1, none⟩ = some (.slice Q0 M.length j0) := block_cell CA0_64.out 1
  have lCA0 := block_lt CA0_64.out
  have qCA10 : W10.cell? ⟨ca1, 0, none⟩ = some (.slice P1 U.length i1) := block_cell CA1_68.out 0
  have qCA11 : W10.cell? ⟨ca1, 1, none⟩ = some (.slice Q1 N.length j1) := block_cell CA1_68.out 1
  have lCA1 := block_lt CA1_68.out
  have qCL0 : W10.cell? ⟨g6, 0, none⟩ = some (.slice A2 U.length c2) := block_cell CL_74.out 0
  have qCL1 : W10.cell? ⟨g6, 1, none⟩ = some (.slice B2 LM.length d2) := block_cell CL_74.out 1
  have lCL := block_lt CL_74.out
  have qCR0 : W10.cell? ⟨g7, 0, none⟩ = some (.slice A5 U.length c5) := block_cell CR_75.out 0
  have qCR1 : W10.cell? ⟨g7, 1, none⟩ = some (.slice B5 RM.length d5) := block_cell CR_75.out 1
  have lCR := block_lt CR_75.out
  have qCA20 : W10.cell? ⟨ca2, 0, none⟩ = some (.slice P2 V.length i2) := block_cell CA2_72.out 0
  have qCA21 : W10.cell? ⟨ca2, 1, none⟩ = some (.slice Q2 O.length j2) := block_cell CA2_72.out 1
  have lCA2 := block_lt CA2_72.out
  have qCM00 : W10.cell? ⟨cm0, 0, none⟩ = some (.slice D0 U.length k0) := block_cell CM0_65.out 0
  have qCM01 : W10.cell? ⟨cm0, 1, none⟩ = some (.slice G0 M.length o0) := block_cell CM0_65.out 1
  have lCM0 := block_lt CM0_65.out
  have qCM20 : W10.cell? ⟨cm2, 0, none⟩ = some (.slice D2 V.length k2) := block_cell CM2_73.out 0
  have qCM21 : W10.cell? ⟨cm2, 1, none⟩ = some (.slice G2 O.length o2) := block_cell CM2_73.out 1
  have lCM2 := block_lt CM2_73.out
  have hgc := cell_grown
  have uCA00 : ∀ w', Ext W10 w' → w'.cell? ⟨ca0, 0, none⟩ = some (.slice P0 U.length i0) := fun w' hE => (ext_cell hE _ _ lCA0).trans qCA00
  have uCA01 : ∀ w', Ext W10 w' → w'.cell? ⟨ca0, 1, none⟩ = some (.slice Q0 M.length j0) := fun w' hE => (ext_cell hE _ _ lCA0).trans qCA01
  have uCA10 : ∀ w', Ext W10 w' → w'.cell? ⟨ca1, 0, none⟩ = some (.slice P1 U.length i1) := fun w' hE => (ext_cell hE _ _ lCA1).trans qCA10
  have uCA11 : ∀ w', Ext W10 w' → w'.cell? ⟨ca1, 1, none⟩ = some (.slice Q1 N.length j1) := fun w' hE => (ext_cell hE _ _ lCA1).trans qCA11
  have uCL0 : ∀ w', Ext W10 w' → w'.cell? ⟨g6, 0, none⟩ = some (.slice A2 U.length c2) := fun w' hE => (ext_cell hE _ _ lCL).trans qCL0
  have uCL1 : ∀ w', Ext W10 w' → w'.cell? ⟨g6, 1, none⟩ = some (.slice B2 LM.length d2) := fun w' hE => (ext_cell hE _ _ lCL).trans qCL1
  have uCR0 : ∀ w', Ext W10 w' → w'.cell? ⟨g7, 0, none⟩ = some (.slice A5 U.length c5) := fun w' hE => (ext_cell hE _ _ lCR).trans qCR0
  have uCR1 : ∀ w', Ext W10 w' → w'.cell? ⟨g7, 1, none⟩ = some (.slice B5 RM.length d5) := fun w' hE => (ext_cell hE _ _ lCR).trans qCR1
  have uCA20 : ∀ w', Ext W10 w' → w'.cell? ⟨ca2, 0, none⟩ = some (.slice P2 V.length i2) := fun w' hE => (ext_cell hE _ _ lCA2).trans qCA20
  have uCA21 : ∀ w', Ext W10 w' → w'.cell? ⟨ca2, 1, none⟩ = some (.slice Q2 O.length j2) := fun w' hE => (ext_cell hE _ _ lCA2).trans qCA21
  have uCM00 : ∀ w', Ext W10 w' → w'.cell? ⟨cm0, 0, none⟩ = some (.slice D0 U.length k0) := fun w' hE => (ext_cell hE _ _ lCM0).trans qCM00
  have uCM01 : ∀ w', Ext W10 w' → w'.cell? ⟨cm0, 1, none⟩ = some (.slice G0 M.length o0) := fun w' hE => (ext_cell hE _ _ lCM0).trans qCM01
  have uCM20 : ∀ w', Ext W10 w' → w'.cell? ⟨cm2, 0, none⟩ = some (.slice D2 V.length k2) := fun w' hE => (ext_cell hE _ _ lCM2).trans qCM20
  have uCM21 : ∀ w', Ext W10 w' → w'.cell? ⟨cm2, 1, none⟩ = some (.slice G2 O.length o2) := fun w' hE => (ext_cell hE _ _ lCM2).trans qCM21
  refine wp_region_each [] [0, 1] [(2, false, (fun _ => True), TabQ 0 U LM), (3, false, (fun v => v = (.agg #[.slice A2 U.length c2, .slice B2 LM.length d2])), fun _ _ => True), (4, false, (fun v => v = .bool true), fun _ _ => True), (5, false, (fun v => v = .bool true), fun _ _ => True), (6, false, (fun v => v = (.agg #[.slice P1 U.length i1, .slice Q1 N.length j1])), fun _ _ => True), (7, false, (fun v => v = (.agg #[.slice P0 U.length i0, .slice Q0 M.length j0])), fun _ _ => True), (8, false, (fun _ => True), TabQ 0 U RM), (9, false, (fun v => v = (.agg #[.slice A5 U.length c5, .slice B5 RM.length d5])), fun _ _ => True), (10, false, (fun v => v = .bool true), fun _ _ => True), (11, false, (fun v => v = .bool true), fun _ _ => True), (12, false, (fun v => v = .bool true), fun _ _ => True), (13, false, (fun v => v = (.agg #[.slice P0 U.length i0, .slice Q0 M.length j0])), fun _ _ => True), (14, false, (fun v => v = (.agg #[.slice P2 V.length i2, .slice Q2 O.length j2])), fun _ _ => True), (15, false, (fun _ => True), TabQ 0 U (minusQ (goneQ U V O) M)), (16, false, (fun v => v = (.agg #[.slice D0 U.length k0, .slice G0 M.length o0])), fun _ _ => True), (17, false, (fun v => v = (.agg #[.slice D2 V.length k2, .slice G2 O.length o2])), fun _ _ => True), (18, false, (fun _ => True), fun v w' => TD w' v U (minusQ (goneQ U V O) M)), (19, false, (fun v => v = .bool true), fun _ _ => True), (20, false, (fun v => v = .bool true), fun _ _ => True), (21, false, (fun v => v = .bool true), fun _ _ => True), (22, false, (fun v => v = (.agg #[.slice P0 U.length i0, .slice Q0 M.length j0])), fun _ _ => True), (23, false, (fun v => v = (.agg #[.slice P1 U.length i1, .slice Q1 N.length j1])), fun _ _ => True), (24, false, (fun v => v = .bool (decide ((LM.length : Int) + (RM.length : Int) = 0))), fun _ _ => True), (25, false, (fun v => v = .pointer (some ⟨g6, 1, none⟩)), fun _ _ => True), (26, false, (fun v => v = .slice B2 LM.length d2), fun _ _ => True), (27, false, (fun v => v = .int .i64 (LM.length : Int)), fun _ _ => True), (28, false, (fun v => v = .pointer (some ⟨g7, 1, none⟩)), fun _ _ => True), (29, false, (fun v => v = .slice B5 RM.length d5), fun _ _ => True), (30, false, (fun v => v = .int .i64 (RM.length : Int)), fun _ _ => True), (31, false, (fun v => v = .int .i64 ((LM.length : Int) + (RM.length : Int))), fun _ _ => True), (32, false, (fun v => v = .bool (decide ((LM.length : Int) + (RM.length : Int) = 0))), fun _ _ => True), (33, false, (fun v => v = .bool true), fun _ _ => True), (34, false, (fun v => v = .bool true), fun _ _ => True), (35, false, (fun v => v = .bool true), fun _ _ => True), (36, false, (fun v => v = (.agg #[.slice P0 U.length i0, .slice Q0 M.length j0])), fun _ _ => True), (37, false, (fun v => v = (.agg #[.slice P0 U.length i0, .slice Q0 M.length j0])), fun _ _ => True), (38, false, (fun v => v = .bool true), fun _ _ => True), (39, false, (fun v => v = .bool true), fun _ _ => True), (40, false, (fun v => v = .bool true), fun _ _ => True), (41, false, (fun v => v = (.agg #[.slice P0 U.length i0, .slice Q0 M.length j0])), fun _ _ => True), (42, false, (fun v => v = (.agg #[.slice P0 U.length i0, .slice Q0 M.length j0])), fun _ _ => True), (43, false, (fun v => v = (.agg #[.slice P0 U.length i0, .slice Q0 M.length j0])), fun _ _ => True), (44, false, (fun _ => True), fun v w' => rowE elS w' v U), (45, false, (fun _ => True), TabQ 0 U []), (46, false, (fun _ => True), TabQ 0 U M), (47, false, (fun v => v = .bool true), fun _ _ => True), (48, false, (fun v => v = .bool true), fun _ _ => True)] [49] [2, 3, 4, 5, 6, 7, 8, 9, 10, 11, 12, 13, 14, 15, 16, 17, 18, 19, 20, 21, 22, 23, 24, 25, 26, 27, 28, 29, 30, 31, 32, 33, 34, 35, 36, 37, 38, 39, 40, 41, 42, 43, 44, 45, 46, 47, 48] rfl (by kernel_rfl) (by kernel_rfl) (fun _ _ d _ _ h => by cases d <;> exact h) ?_
  refine wpPre_nil ?_
  repeat (refine wpLoose_step rfl (fun K hK => ?_); (try simp only [Oper.quietAt, Oper.quietUpon]); go_simp; (refine hK _ ?_; clear hK K))
  refine wpLoose_nil ?_
  clear qCA00 qCA01 lCA0 qCA10 qCA11 lCA1 qCL0 qCL1 lCL qCR0 qCR1 lCR qCA20 qCA21 lCA2 qCM00 qCM01 lCM0 qCM20 qCM21 lCM2 hgc
  refine wpGz_step1 rfl tabF_ext ⟨undef, trivial⟩ (fun w6 hE6 hS6 => ?_) (fun v2 _ K hK => ?_)
  · simp only [opAt, runsAt]
    go_simp
    refine (minusTE _ _ w6 ⟨_, _, rfl, own_low (own_ext OA0_62.out hE6) (Nat.zero_le _)⟩ ⟨_, _, rfl, own_low (own_ext OA1_66.out hE6) (Nat.zero_le _)⟩ (tabP_ext HTP.out (ext_trans HE_59.out hE6)) DLM.out TB0.out TB1.out (by omega) (by omega) (by omega) (by omega)).mono ?_
    rintro e w7 ⟨v', rfl, h3, h4⟩
    exact ⟨_, rfl, h4, by obtain ⟨x1, x2, x3, x4⟩ := h3; exact ⟨x1, x2, x3, own_low x4 (Nat.zero_le _)⟩⟩
  go_simp
  refine hK _ ?_
  clear hK K
  refine wpGz_pure1 (fun _ _ _ h h1 w' hw hs => h1 w' hw (h _ hs)) rfl (fun w6 hE6 hS6 => ?_) (fun K hK => ?_)
  · simp only [opAt, runsAt]
    go_simp
    all_goals (first | exact ⟨ext_refl _, rfl⟩ | exact ext_refl _ | rfl | trivial)
  go_simp
  refine hK _ ?_
  clear hK K
  refine wpGz_pure1 (fun _ _ _ h h1 w' hw hs => h1 w' hw (h _ hs)) rfl (fun w6 hE6 hS6 => ?_) (fun K hK => ?_)
  · simp only [opAt, runsAt]
    go_simp
    refine (isT _ _ w6 (hS6 _ (List.mem_cons_self ..) (by kernel_rfl)) (tD_ext TDL_76.out hE6) TBL.out (by omega) (by omega)).mono ?_
    rintro e w7 ⟨rfl, h4⟩
    first | exact ⟨rfl, h4⟩ | exact ⟨_, rfl, h4, rfl⟩
  go_simp
  refine hK _ ?_
  clear hK K
  refine wpGz_pure1 (fun _ _ _ h h1 w' hw hs => h1 w' hw (h _ hs)) rfl (fun w6 hE6 hS6 => ?_) (fun K hK => ?_)
  · simp only [opAt, runsAt]
    go_simp
    all_goals (first | exact ⟨ext_refl _, rfl⟩ | exact ext_refl _ | rfl | trivial)
  go_simp
  refine hK _ ?_
  clear hK K
  refine wpGz_pure1 (fun _ _ _ h h1 w' hw hs => h1 w' hw (h _ hs)) rfl (fun w6 hE6 hS6 => ?_) (fun K hK => ?_)
  · simp only [opAt, runsAt]
    go_simp
    all_goals (first | exact ⟨ext_refl _, rfl⟩ | exact ext_refl _ | rfl | trivial)
  go_simp
  refine hK _ ?_
  clear hK K
  refine wpGz_pure1 (fun _ _ _ h h1 w' hw hs => h1 w' hw (h _ hs)) rfl (fun w6 hE6 hS6 => ?_) (fun K hK => ?_)
  · simp only [opAt, runsAt]
    go_simp
    all_goals (first | exact ⟨ext_refl _, rfl⟩ | exact ext_refl _ | rfl | trivial)
  go_simp
  refine hK _ ?_
  clear hK K
  refine wpGz_step1 rfl tabF_ext ⟨undef, trivial⟩ (fun w6 hE6 hS6 => ?_) (fun v8 _ K hK => ?_)
  · simp only [opAt, runsAt]
    go_simp
    refine (minusTE _ _ w6 ⟨_, _, rfl, own_low (own_ext OA1_66.out hE6) (Nat.zero_le _)⟩ ⟨_, _, rfl, own_low (own_ext OA0_62.out hE6) (Nat.zero_le _)⟩ (tabP_ext HTP.out (ext_trans HE_59.out hE6)) DRM.out TB1.out TB0.out (by omega) (by omega) (by omega) (by omega)).mono ?_
    rintro e w7 ⟨v', rfl, h3, h4⟩
    exact ⟨_, rfl, h4, by obtain ⟨x1, x2, x3, x4⟩ := h3; exact ⟨x1, x2, x3, own_low x4 (Nat.zero_le _)⟩⟩
  go_simp
  refine hK _ ?_
  clear hK K
  refine wpGz_pure1 (fun _ _ _ h h1 w' hw hs => h1 w' hw (h _ hs)) rfl (fun w6 hE6 hS6 => ?_) (fun K hK => ?_)
  · simp only [opAt, runsAt]
    go_simp
    all_goals (first | exact ⟨ext_refl _, rfl⟩ | exact ext_refl _ | rfl | trivial)
  go_simp
  refine hK _ ?_
  clear hK K
  refine wpGz_pure1 (fun _ _ _ h h1 w' hw hs => h1 w' hw (h _ hs)) rfl (fun w6 hE6 hS6 => ?_) (fun K hK => ?_)
  · simp only [opAt, runsAt]
    go_simp
    refine (isT _ _ w6 (hS6 _ (List.mem_cons_self ..) (by kernel_rfl)) (tD_ext TDR_77.out hE6) TBR.out (by omega) (by omega)).mono ?_
    rintro e w7 ⟨rfl, h4⟩
    first | exact ⟨rfl, h4⟩ | exact ⟨_, rfl, h4, rfl⟩
  go_simp
  refine hK _ ?_
  clear hK K
  refine wpGz_pure1 (fun _ _ _ h h1 w' hw hs => h1 w' hw (h _ hs)) rfl (fun w6 hE6 hS6 => ?_) (fun K hK => ?_)
  · simp only [opAt, runsAt]
    go_simp
    all_goals (first | exact ⟨ext_refl _, rfl⟩ | exact ext_refl _ | rfl | trivial)
  go_simp
  refine hK _ ?_
  clear hK K
  refine wpGz_pure1 (fun _ _ _ h h1 w' hw hs => h1 w' hw (h _ hs)) rfl (fun w6 hE6 hS6 => ?_) (fun K hK => ?_)
  · simp only [opAt, runsAt]
    go_simp
    all_goals (first | exact ⟨ext_refl _, rfl⟩ | exact ext_refl _ | rfl | trivial)
  go_simp
  refine hK _ ?_
  clear hK K
  refine wpGz_pure1 (fun _ _ _ h h1 w' hw hs => h1 w' hw (h _ hs)) rfl (fun w6 hE6 hS6 => ?_) (fun K hK => ?_)
  · simp only [opAt, runsAt]
    go_simp
    all_goals (first | exact ⟨ext_refl _, rfl⟩ | exact ext_refl _ | rfl | trivial)
  go_simp
  refine hK _ ?_
  clear hK K
  refine wpGz_pure1 (fun _ _ _ h h1 w' hw hs => h1 w' hw (h _ hs)) rfl (fun w6 hE6 hS6 => ?_) (fun K hK => ?_)
  · simp only [opAt, runsAt]
    go_simp
    all_goals (first | exact ⟨ext_refl _, rfl⟩ | exact ext_refl _ | rfl | trivial)
  go_simp
  refine hK _ ?_
  clear hK K
  refine wpGz_step1 rfl tabF_ext ⟨undef, trivial⟩ (fun w6 hE6 hS6 => ?_) (fun v15 _ K hK => ?_)
  · simp only [opAt, runsAt]
    go_simp
    refine (minusTQ _ _ w6 ⟨_, _, rfl, own_low (own_ext OA0_62.out hE6) (Nat.zero_le _)⟩ ⟨_, _, rfl, own_low (own_ext OA2_70.out hE6) (Nat.zero_le _)⟩ (tabP_ext HTP.out (ext_trans HE_59.out hE6)) TB0.out TB2.out (by omega) (by omega) (by omega) (by omega)).mono ?_
    rintro e w7 ⟨v', rfl, h3, h4⟩
    exact ⟨_, rfl, h4, by obtain ⟨x1, x2, x3, x4⟩ := h3; exact ⟨x1, x2, x3, own_low x4 (Nat.zero_le _)⟩⟩
  go_simp
  refine hK _ ?_
  clear hK K
  refine wpGz_pure1 (fun _ _ _ h h1 w' hw hs => h1 w' hw (h _ hs)) rfl (fun w6 hE6 hS6 => ?_) (fun K hK => ?_)
  · simp only [opAt, runsAt]
    go_simp
    all_goals (first | exact ⟨ext_refl _, rfl⟩ | exact ext_refl _ | rfl | trivial)
  go_simp
  refine hK _ ?_
  clear hK K
  refine wpGz_pure1 (fun _ _ _ h h1 w' hw hs => h1 w' hw (h _ hs)) rfl (fun w6 hE6 hS6 => ?_) (fun K hK => ?_)
  · simp only [opAt, runsAt]
    go_simp
    all_goals (first | exact ⟨ext_refl _, rfl⟩ | exact ext_refl _ | rfl | trivial)
  go_simp
  refine hK _ ?_
  clear hK K
  refine wpGz_step1 rfl (fun v a b hE h => tD_ext h hE) ⟨undef, trivial⟩ (fun w6 hE6 hS6 => ?_) (fun v18 _ K hK => ?_)
  · simp only [opAt, runsAt]
    go_simp
    refine (rminusT _ _ w6 (tD_ext TD0_63.out hE6) (tD_ext TD2_71.out hE6)  TB0.out TB2.out (by omega) (by omega) (by omega) (by omega)).mono ?_
    rintro e w7 ⟨v', rfl, h3, h4⟩
    exact ⟨_, rfl, h4, h3⟩
  go_simp
  refine hK _ ?_
  clear hK K
  refine wpGz_pure1 (fun _ _ _ h h1 w' hw hs => h1 w' hw (h _ hs)) rfl (fun w6 hE6 hS6 => ?_) (fun K hK => ?_)
  · simp only [opAt, runsAt]
    go_simp
    refine (isT _ _ w6 (hS6 _ (List.mem_cons_of_mem _ (List.mem_cons_self ..)) (by kernel_rfl)) (hS6 _ (List.mem_cons_self ..) (by kernel_rfl)) (tb_minus TB0.out _) (by omega) (by omega)).mono ?_
    rintro e w7 ⟨rfl, h4⟩
    first | exact ⟨rfl, h4⟩ | exact ⟨_, rfl, h4, rfl⟩
  go_simp
  refine hK _ ?_
  clear hK K
  refine wpGz_pure1 (fun _ _ _ h h1 w' hw hs => h1 w' hw (h _ hs)) rfl (fun w6 hE6 hS6 => ?_) (fun K hK => ?_)
  · simp only [opAt, runsAt]
    go_simp
    all_goals (first | exact ⟨ext_refl _, rfl⟩ | exact ext_refl _ | rfl | trivial)
  go_simp
  refine hK _ ?_
  clear hK K
  refine wpGz_pure1 (fun _ _ _ h h1 w' hw hs => h1 w' hw (h _ hs)) rfl (fun w6 hE6 hS6 => ?_) (fun K hK => ?_)
  · simp only [opAt, runsAt]
    go_simp
    all_goals (first | exact ⟨ext_refl _, rfl⟩ | exact ext_refl _ | rfl | trivial)
  go_simp
  refine hK _ ?_
  clear hK K
  refine wpGz_pure1 (fun _ _ _ h h1 w' hw hs => h1 w' hw (h _ hs)) rfl (fun w6 hE6 hS6 => ?_) (fun K hK => ?_)
  · simp only [opAt, runsAt]
    go_simp
    all_goals (first | exact ⟨ext_refl _, rfl⟩ | exact ext_refl _ | rfl | trivial)
  go_simp
  refine hK _ ?_
  clear hK K
  refine wpGz_pure1 (fun _ _ _ h h1 w' hw hs => h1 w' hw (h _ hs)) rfl (fun w6 hE6 hS6 => ?_) (fun K hK => ?_)
  · simp only [opAt, runsAt]
    go_simp
    all_goals (first | exact ⟨ext_refl _, rfl⟩ | exact ext_refl _ | rfl | trivial)
  go_simp
  refine hK _ ?_
  clear hK K
  refine wpGz_pure1 (fun _ _ _ h h1 w' hw hs => h1 w' hw (h _ hs)) rfl (fun w6 hE6 hS6 => ?_) (fun K hK => ?_)
  · simp only [opAt, runsAt]
    go_simp
    have hs := sameT _ _ w6 ⟨_, _, rfl, own_low (own_ext OA0_62.out hE6) (Nat.zero_le _)⟩ ⟨_, _, rfl, own_low (own_ext OA1_66.out hE6) (Nat.zero_le _)⟩ (tabP_ext HTP.out (ext_trans HE_59.out hE6)) TB0.out TB1.out (by omega) (by omega) (by omega) (by omega)
    rw [(same_minusI TB0.out.q TB1.out.q DLM.out DRM.out)] at hs
    refine hs.mono ?_
    rintro e w7 ⟨rfl, h4⟩
    first | exact ⟨rfl, h4⟩ | exact ⟨_, rfl, h4, rfl⟩
  go_simp
  refine hK _ ?_
  clear hK K
  refine wpGz_pure1 (fun _ _ _ h h1 w' hw hs => h1 w' hw (h _ hs)) rfl (fun w6 hE6 hS6 => ?_) (fun K hK => ?_)
  · simp only [opAt, runsAt]
    go_simp
    all_goals (first | exact ⟨ext_refl _, rfl⟩ | exact ext_refl _ | rfl | trivial)
  go_simp
  refine hK _ ?_
  clear hK K
  refine wpGz_pure1 (fun _ _ _ h h1 w' hw hs => h1 w' hw (h _ hs)) rfl (fun w6 hE6 hS6 => ?_) (fun K hK => ?_)
  · simp only [opAt, runsAt]
    go_simp
    all_goals (first | exact ⟨ext_refl _, rfl⟩ | exact ext_refl _ | rfl | trivial)
  go_simp
  refine hK _ ?_
  clear hK K
  refine wpGz_pure1 (fun _ _ _ h h1 w' hw hs => h1 w' hw (h _ hs)) rfl (fun w6 hE6 hS6 => ?_) (fun K hK => ?_)
  · simp only [opAt, runsAt]
    go_simp
    all_goals (first | exact ⟨ext_refl _, rfl⟩ | exact ext_refl _ | rfl | trivial)
  go_simp
  refine hK _ ?_
  clear hK K
  refine wpGz_pure1 (fun _ _ _ h h1 w' hw hs => h1 w' hw (h _ hs)) rfl (fun w6 hE6 hS6 => ?_) (fun K hK => ?_)
  · simp only [opAt, runsAt]
    go_simp
    all_goals (first | exact ⟨ext_refl _, rfl⟩ | exact ext_refl _ | rfl | trivial)
  go_simp
  refine hK _ ?_
  clear hK K
  refine wpGz_pure1 (fun _ _ _ h h1 w' hw hs => h1 w' hw (h _ hs)) rfl (fun w6 hE6 hS6 => ?_) (fun K hK => ?_)
  · simp only [opAt, runsAt]
    go_simp
    all_goals (first | exact ⟨ext_refl _, rfl⟩ | exact ext_refl _ | rfl | trivial)
  go_simp
  refine hK _ ?_
  clear hK K
  refine wpGz_pure1 (fun _ _ _ h h1 w' hw hs => h1 w' hw (h _ hs)) rfl (fun w6 hE6 hS6 => ?_) (fun K hK => ?_)
  · simp only [opAt, runsAt]
    go_simp
    all_goals (first | exact ⟨ext_refl _, rfl⟩ | exact ext_refl _ | rfl | trivial)
  go_simp
  refine hK _ ?_
  clear hK K
  refine wpGz_pure1 (fun _ _ _ h h1 w' hw hs => h1 w' hw (h _ hs)) rfl (fun w6 hE6 hS6 => ?_) (fun K hK => ?_)
  · simp only [opAt, runsAt]
    go_simp
    all_goals (first | exact ⟨ext_refl _, rfl⟩ | exact ext_refl _ | rfl | trivial)
  go_simp
  refine hK _ ?_
  clear hK K
  refine wpGz_pure1 (fun _ _ _ h h1 w' hw hs => h1 w' hw (h _ hs)) rfl (fun w6 hE6 hS6 => ?_) (fun K hK => ?_)
  · simp only [opAt, runsAt]
    go_simp
    all_goals (first | exact ⟨ext_refl _, rfl⟩ | exact ext_refl _ | rfl | trivial)
  go_simp
  refine hK _ ?_
  clear hK K
  refine wpGz_pure1 (fun _ _ _ h h1 w' hw hs => h1 w' hw (h _ hs)) rfl (fun w6 hE6 hS6 => ?_) (fun K hK => ?_)
  · simp only [opAt, runsAt]
    go_simp
    all_goals (first | exact ⟨ext_refl _, rfl⟩ | exact ext_refl _ | rfl | trivial)
  go_simp
  refine hK _ ?_
  clear hK K
  refine wpGz_pure1 (fun _ _ _ h h1 w' hw hs => h1 w' hw (h _ hs)) rfl (fun w6 hE6 hS6 => ?_) (fun K hK => ?_)
  · simp only [opAt, runsAt]
    go_simp
    all_goals (first | exact ⟨ext_refl _, rfl⟩ | exact ext_refl _ | rfl | trivial)
  go_simp
  refine hK _ ?_
  clear hK K
  refine wpGz_pure1 (fun _ _ _ h h1 w' hw hs => h1 w' hw (h _ hs)) rfl (fun w6 hE6 hS6 => ?_) (fun K hK => ?_)
  · simp only [opAt, runsAt]
    go_simp
    all_goals (first | exact ⟨ext_refl _, rfl⟩ | exact ext_refl _ | rfl | trivial)
  go_simp
  refine hK _ ?_
  clear hK K
  refine wpGz_pure1 (fun _ _ _ h h1 w' hw hs => h1 w' hw (h _ hs)) rfl (fun w6 hE6 hS6 => ?_) (fun K hK => ?_)
  · simp only [opAt, runsAt]
    go_simp
    all_goals (first | exact ⟨ext_refl _, rfl⟩ | exact ext_refl _ | rfl | trivial)
  go_simp
  refine hK _ ?_
  clear hK K
  refine wpGz_pure1 (fun _ _ _ h h1 w' hw hs => h1 w' hw (h _ hs)) rfl (fun w6 hE6 hS6 => ?_) (fun K hK => ?_)
  · simp only [opAt, runsAt]
    go_simp
    all_goals (first | exact ⟨ext_refl _, rfl⟩ | exact ext_refl _ | rfl | trivial)
  go_simp
  refine hK _ ?_
  clear hK K
  refine wpGz_pure1 (fun _ _ _ h h1 w' hw hs => h1 w' hw (h _ hs)) rfl (fun w6 hE6 hS6 => ?_) (fun K hK => ?_)
  · simp only [opAt, runsAt]
    go_simp
    have hs := sameT _ _ w6 ⟨_, _, rfl, own_low (own_ext OA0_62.out hE6) (Nat.zero_le _)⟩ ⟨_, _, rfl, own_low (own_ext OA0_62.out hE6) (Nat.zero_le _)⟩ (tabP_ext HTP.out (ext_trans HE_59.out hE6)) TB0.out TB0.out (by omega) (by omega) (by omega) (by omega)
    rw [(same_self U _)] at hs
    refine hs.mono ?_
    rintro e w7 ⟨rfl, h4⟩
    first | exact ⟨rfl, h4⟩ | exact ⟨_, rfl, h4, rfl⟩
  go_simp
  refine hK _ ?_
  clear hK K
  refine wpGz_pure1 (fun _ _ _ h h1 w' hw hs => h1 w' hw (h _ hs)) rfl (fun w6 hE6 hS6 => ?_) (fun K hK => ?_)
  · simp only [opAt, runsAt]
    go_simp
    all_goals (first | exact ⟨ext_refl _, rfl⟩ | exact ext_refl _ | rfl | trivial)
  go_simp
  refine hK _ ?_
  clear hK K
  refine wpGz_pure1 (fun _ _ _ h h1 w' hw hs => h1 w' hw (h _ hs)) rfl (fun w6 hE6 hS6 => ?_) (fun K hK => ?_)
  · simp only [opAt, runsAt]
    go_simp
    all_goals (first | exact ⟨ext_refl _, rfl⟩ | exact ext_refl _ | rfl | trivial)
  go_simp
  refine hK _ ?_
  clear hK K
  refine wpGz_pure1 (fun _ _ _ h h1 w' hw hs => h1 w' hw (h _ hs)) rfl (fun w6 hE6 hS6 => ?_) (fun K hK => ?_)
  · simp only [opAt, runsAt]
    go_simp
    all_goals (first | exact ⟨ext_refl _, rfl⟩ | exact ext_refl _ | rfl | trivial)
  go_simp
  refine hK _ ?_
  clear hK K
  refine wpGz_pure1 (fun _ _ _ h h1 w' hw hs => h1 w' hw (h _ hs)) rfl (fun w6 hE6 hS6 => ?_) (fun K hK => ?_)
  · simp only [opAt, runsAt]
    go_simp
    all_goals (first | exact ⟨ext_refl _, rfl⟩ | exact ext_refl _ | rfl | trivial)
  go_simp
  refine hK _ ?_
  clear hK K
  refine wpGz_pure1 (fun _ _ _ h h1 w' hw hs => h1 w' hw (h _ hs)) rfl (fun w6 hE6 hS6 => ?_) (fun K hK => ?_)
  · simp only [opAt, runsAt]
    go_simp
    all_goals (first | exact ⟨ext_refl _, rfl⟩ | exact ext_refl _ | rfl | trivial)
  go_simp
  refine hK _ ?_
  clear hK K
  refine wpGz_step1 rfl (fun v a b hE h => rowE_ext h hE) ⟨undef, trivial⟩ (fun w6 hE6 hS6 => ?_) (fun v44 _ K hK => ?_)
  · simp only [opAt, runsAt]
    go_simp
    refine (x0T _ w6 ⟨_, _, rfl, own_low (own_ext OA0_62.out hE6) (Nat.zero_le _)⟩ (by omega)).mono ?_
    rintro e w7 ⟨v', rfl, h3, h4⟩
    exact ⟨_, rfl, h4, h3⟩
  go_simp
  refine hK _ ?_
  clear hK K
  refine wpGz_step1 rfl tabF_ext ⟨undef, trivial⟩ (fun w6 hE6 hS6 => ?_) (fun v45 _ K hK => ?_)
  · simp only [opAt, runsAt]
    go_simp
    refine (ofNT _ w6 (hS6 _ (List.mem_cons_self ..) (by kernel_rfl))  TB0.out.q.rise (by omega)).mono ?_
    rintro e w7 ⟨v', rfl, h3, h4⟩
    exact ⟨_, rfl, h4, by obtain ⟨x1, x2, x3, x4⟩ := h3; exact ⟨x1, x2, x3, own_low x4 (Nat.zero_le _)⟩⟩
  go_simp
  refine hK _ ?_
  clear hK K
  refine wpGz_step1 rfl tabF_ext ⟨undef, trivial⟩ (fun w6 hE6 hS6 => ?_) (fun v46 _ K hK => ?_)
  · simp only [opAt, runsAt]
    go_simp
    refine (unionTN _ _ w6 ⟨_, _, rfl, own_low (own_ext OA0_62.out hE6) (Nat.zero_le _)⟩ (hS6 _ (List.mem_cons_self ..) (by kernel_rfl))  TB0.out (tb_none TB0.out) (by omega) (by omega) (by omega) (by omega)).mono ?_
    rintro e w7 ⟨v', rfl, h3, h4⟩
    exact ⟨_, rfl, h4, by obtain ⟨x1, x2, x3, x4⟩ := h3; exact ⟨x1, x2, x3, own_low x4 (Nat.zero_le _)⟩⟩
  go_simp
  refine hK _ ?_
  clear hK K
  refine wpGz_pure1 (fun _ _ _ h h1 w' hw hs => h1 w' hw (h _ hs)) rfl (fun w6 hE6 hS6 => ?_) (fun K hK => ?_)
  · simp only [opAt, runsAt]
    go_simp
    have hs := sameT _ _ w6 ⟨_, _, rfl, own_low (own_ext OA0_62.out hE6) (Nat.zero_le _)⟩ (hS6 _ (List.mem_cons_self ..) (by kernel_rfl)) (tabP_ext HTP.out (ext_trans HE_59.out hE6)) TB0.out TB0.out (by omega) (by omega) (by omega) (by omega)
    rw [(same_self U _)] at hs
    refine hs.mono ?_
    rintro e w7 ⟨rfl, h4⟩
    first | exact ⟨rfl, h4⟩ | exact ⟨_, rfl, h4, rfl⟩
  go_simp
  refine hK _ ?_
  clear hK K
  refine wpGz_pure1 (fun _ _ _ h h1 w' hw hs => h1 w' hw (h _ hs)) rfl (fun w6 hE6 hS6 => ?_) (fun K hK => ?_)
  · simp only [opAt, runsAt]
    go_simp
    all_goals (first | exact ⟨ext_refl _, rfl⟩ | exact ext_refl _ | rfl | trivial)
  go_simp
  refine hK _ ?_
  clear hK K
  refine wpGz_nil (fun w6 hE6 hS6 => ?_)
  clear hS6 uCA00 uCA01 uCA10 uCA11 uCL0 uCL1 uCR0 uCR1 uCA20 uCA21 uCM00 uCM01 uCM20 uCM21
  obtain ⟨w11, hw⟩ : ∃ w, w = w6 := ⟨_, rfl⟩
  subst hw
  have HE_78 := Lib.hid (ext_trans HE_59.out hE6)
  clear HE_59
  have X0_79 := Lib.hid ((ext_block hE6 (block_lt X0_60.out)).trans X0_60.out)
  clear X0_60
  have X1_80 := Lib.hid ((ext_block hE6 (block_lt X1_61.out)).trans X1_61.out)
  clear X1_61
  have OA0_81 := Lib.hid (own_ext OA0_62.out hE6)
  clear OA0_62
  have TD0_82 := Lib.hid (tD_ext TD0_63.out hE6)
  clear TD0_63
  have CA0_83 := Lib.hid ((ext_block hE6 (block_lt CA0_64.out)).trans CA0_64.out)
  clear CA0_64
  have CM0_84 := Lib.hid ((ext_block hE6 (block_lt CM0_65.out)).trans CM0_65.out)
  clear CM0_65
  have OA1_85 := Lib.hid (own_ext OA1_66.out hE6)
  clear OA1_66
  have TD1_86 := Lib.hid (tD_ext TD1_67.out hE6)
  clear TD1_67
  have CA1_87 := Lib.hid ((ext_block hE6 (block_lt CA1_68.out)).trans CA1_68.out)
  clear CA1_68
  have CM1_88 := Lib.hid ((ext_block hE6 (block_lt CM1_69.out)).trans CM1_69.out)
  clear CM1_69
  have OA2_89 := Lib.hid (own_ext OA2_70.out hE6)
  clear OA2_70
  have TD2_90 := Lib.hid (tD_ext TD2_71.out hE6)
  clear TD2_71
  have CA2_91 := Lib.hid ((ext_block hE6 (block_lt CA2_72.out)).trans CA2_72.out)
  clear CA2_72
  have CM2_92 := Lib.hid ((ext_block hE6 (block_lt CM2_73.out)).trans CM2_73.out)
  clear CM2_73
  have CL_93 := Lib.hid ((ext_block hE6 (block_lt CL_74.out)).trans CL_74.out)
  clear CL_74
  have CR_94 := Lib.hid ((ext_block hE6 (block_lt CR_75.out)).trans CR_75.out)
  clear CR_75
  have TDL_95 := Lib.hid (tD_ext TDL_76.out hE6)
  clear TDL_76
  have TDR_96 := Lib.hid (tD_ext TDR_77.out hE6)
  clear TDR_77
  clear hE6
  refine wpSeq_of_list [49] [_] _ _ rfl ?_
  go_wp2
  refine bodyPost_ret (results_tmp rfl _ _ _) rfl ?_
  exact ⟨rfl, HE_78.out⟩
end Go.Proofs.YtniggdaakiofeaaDoor
namespace Go.Proofs.YtniggdaakiofeaaDoor
open Go.ChangeShapes Go.WideShapes Go.ChangeAt Go.WideMaps Go.WideElems Go.RowKit

set_option maxRecDepth 100000 in
theorem minus_lifted (os : Os) (started : os.Started) (H : Type) (enc : TypeId × Value → H) :
    ReturnsInHanded {} Tryd.checked os 4 .any (fun w args => (Rows.solutionMinusSpec.pre enc Tryd.prog Tryd.f4 [] false w args ∧ laidMetH Tryd.prog laid3 w) ∧ sizedMet enc Tryd.prog Tryd.f4 (OpenSpec.ofChange Rows.solutionMinusSpec) false w args)
      (Rows.solutionMinusSpec.post enc Tryd.prog Tryd.f4 false true false false) := by
  refine returnsInHanded_of_change_and (C := Tryd.checked) (X := fun w _ => laidMetH Tryd.prog laid3 w) (fun _ _ _ hh h => h.of_heap hh) own started (by kernel_rfl) Tryd.func4
    (ChangeSpec.witness_shaped (enc := enc) (C := Tryd.checked) (os := os) (X := fun w _ => laidMetH Tryd.prog laid3 w) false (World.doorLaid Tryd.prog 24 os) #[.agg #[.slice none 0 0, .slice none 0 0], .agg #[.slice none 0 0, .slice none 0 0]] 8 rfl (World.shaped_of_RefB (by kernel_rfl) (by kernel_rfl)) (by kernel_rfl) (by kernel_rfl) (by kernel_rfl) (door_met os _)) ?_
  intro W base args ds gs before hval0 hW _ _ hL _
  have hval : ∀ (j : Nat) t v, Tryd.f4.params[j]? = some t → args[j]? = some v → Value.okWide Tryd.prog W .any base t v := hval0
  have hW' := hW
  obtain ⟨p, q, hA0, hV, rfl, hfz, hnd⟩ := hW
  have hA : DataW.TrodAll enc Tryd.prog W 0 (fun _ => true) true Tryd.f4.params.toList args.toList ds p := hA0
  rw [Tryd.params4] at hA hval
  obtain ⟨v0, vs0, d0, ds0, p0, q0, hargs, rfl, rfl, h0, r0⟩ := trodAll_cons hA
  obtain ⟨v1, vs1, d1, ds1, p1, q1, rfl, rfl, rfl, h1, r1⟩ := trodAll_cons r0
  obtain ⟨rfl, rfl, rfl⟩ := trodAll_nil r1
  obtain rfl : args = #[v0, v1] := by cases args; simp_all
  obtain ⟨rfl, rfl⟩ := trodVars_none hV
  have lt0 : ∀ x ∈ p0, x.block < W.heap.size := by obtain ⟨m, hm⟩ := h0; exact DataW.trod_lt m _ _ _ hm
  obtain ⟨L0, M0, ha0, hl0, hm0, hn0⟩ := open_raw (hval 0 25 v0 rfl rfl) h0
  have lt1 : ∀ x ∈ p1, x.block < W.heap.size := by obtain ⟨m, hm⟩ := h1; exact DataW.trod_lt m _ _ _ hm
  obtain ⟨L1, M1, ha1, hl1, hm1, hn1⟩ := open_raw (hval 1 25 v1 rfl rfl) h1
  clear hA0 hval0
  refine (minus_law v0 v1 L0 M0 L1 M1 W ha0 ha1 hl0 hm0 hn0 hl1 hm1 hn1 (laid_of hL)).mono fun e W' ⟨he, bel⟩ => ?_
  subst he
  have bel : Below W.heap.size W W' := bel
  exact ⟨_, rfl, _, _, _, [], _, [], hW', trodAll_mk1 (shut_bool Tryd.underlying4 _), (trodAll_cons_mk (Below.trod laidOut (by kernel_rfl) (of_decide_eq_true (by kernel_rfl)) h0 bel lt0) (trodAll_cons_mk (Below.trod laidOut (by kernel_rfl) (of_decide_eq_true (by kernel_rfl)) h1 bel lt1) trodAll_mk0)), rfl, bel.frame _, fun h => by cases h⟩

theorem minus_row_holds : Rows.SolutionMinusSaid :=
  OpenClaim.holds_of_wide 4 Tryd.f4 rfl rfl rfl rfl rfl rfl rfl ⟨rfl, rfl, rfl, rfl, rfl⟩ rfl rfl rfl rfl rfl (by kernel_rfl) Tryd.func4 (by kernel_rfl)
    (of_decide_eq_true (by kernel_rfl)) (by unfold Func.isWrapper; first | (rw [if_pos (by decide +kernel)]; kernel_rfl) | (rw [if_neg (by decide +kernel)]; exact ⟨rfl, rfl⟩))
    (fun os started H enc _ => minus_lifted os started H enc)

theorem minus_holds : Rows.SolutionMinusCardSaid :=
  Claim7.holds_tied_plain_at .later [] [.data, .data, .data] true (true, "811115b5137751a59115d0a76d186c9ee974b6775d4f794146eca61a1d024a5a") false
    minus_row_holds (fun _ h => by cases h) (by kernel_rfl) (fun _ h => by cases h) solutionMinus_row_tie rfl ⟨rfl, rfl⟩ (by kernel_rfl) rfl
    (fun f fn hf hfn => by
      obtain rfl : f = 4 := Option.some.inj ((show Tryd.prog.funcNamed "beck/becklaw14.SolutionMinus" = some 4 by kernel_rfl).symm.trans hf) |>.symm
      obtain rfl : fn = Tryd.f4 := (Option.some.inj (Tryd.func4.symm.trans hfn)).symm
      exact ⟨by kernel_rfl, fun j t ht => by
        rw [Tryd.params4] at ht
        have hm : t ∈ [25, 25] := by simpa using Array.mem_of_getElem? ht
        have hall : ([25, 25].all fun u => !Tryd.prog.wantsStandIn u) = true := by kernel_rfl
        exact (show Tryd.prog.wantsStandIn t = false by simpa using List.all_eq_true.1 hall t hm)⟩)
    (by kernel_rfl)
#print axioms minus_holds
end Go.Proofs.YtniggdaakiofeaaDoor
