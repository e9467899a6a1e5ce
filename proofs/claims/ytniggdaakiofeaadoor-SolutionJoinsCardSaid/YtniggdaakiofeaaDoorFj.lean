/- The law Joins. -/
import Derived.Test.YtniggdaakiofeaaDoorEr
import Derived.Test.YtniggdaakiofeaaDoorSu
namespace Go.Proofs.YtniggdaakiofeaaDoor
open Go Go.RowKit Go.Sort
set_option maxHeartbeats 20000000

/- of this seat alone: 80 -/
set_option maxRecDepth 100000 in
theorem joins_law (v0 : Value) (v1 : Value) (xs : List Nat) (rs : List (List Nat)) (ys : List Nat) (ss : List (List Nat)) (w : World) (h0 : RawV w v0 xs rs) (h1 : RawV w v1 ys ss) (l0 : xs.length ≤ maxLen) (m0 : rs.length ≤ maxLen) (n0 : ∀ r ∈ rs, r.length ≤ maxLen) (l1 : ys.length ≤ maxLen) (m1 : ss.length ≤ maxLen) (n1 : ∀ r ∈ ss, r.length ≤ maxLen) (hT : TabP w) :
    Calls Tryd.prog 3 #[v0, v1] w fun e w' => e = .returned (.bool true) ∧ Ext w w' := by
  have hml : maxLen ≤ 9223372036854775807 := by decide
  have F0 := Lib.hid (fun w' (hE : Ext w w') => few_any v0 xs rs w' (rawV_ext h0 hE) (Nat.le_trans l0 hml) (Nat.le_trans m0 hml) (fun r hr => Nat.le_trans (n0 r hr) hml))
  have HR0 := Lib.hid h0
  obtain ⟨a0, d0, rfl, p0, q0⟩ := h0
  obtain ⟨A0, c0, rfl⟩ := rdU_form p0
  obtain ⟨B0, e0, rfl⟩ := rdUU_form q0
  clear p0 q0 l0 m0 n0
  have F1 := Lib.hid (fun w' (hE : Ext w w') => few_any v1 ys ss w' (rawV_ext h1 hE) (Nat.le_trans l1 hml) (Nat.le_trans m1 hml) (fun r hr => Nat.le_trans (n1 r hr) hml))
  have HR1 := Lib.hid h1
  obtain ⟨a1, d1, rfl, p1, q1⟩ := h1
  obtain ⟨A1, c1, rfl⟩ := rdU_form p1
  obtain ⟨B1, e1, rfl⟩ := rdUU_form q1
  clear p1 q1 l1 m1 n1
  clear hml
  have HE_1 := Lib.hid (ext_refl w)
  have HTP := Lib.hid hT
  clear hT
  go_enter Tryd.func3, Tryd.ntmps3
  go_wp2_with fail
  refine (awake_any _).mono ?_
  rintro e w1 ⟨rfl, hE⟩
  obtain ⟨hE, g0, g1⟩ := ext2 hE
  have HE_2 := Lib.hid (ext_trans HE_1.out hE)
  clear HE_1
  obtain ⟨bx0, hbx0⟩ : ∃ bx0, bx0 = w.heap.size := ⟨_, rfl⟩
  obtain ⟨bx1, hbx1⟩ : ∃ bx1, bx1 = w.heap.size + 1 := ⟨_, rfl⟩
  try rw [← hbx1]
  rw [← hbx1] at g1
  try rw [← hbx0]
  rw [← hbx0] at g0
  have X0_3 := Lib.hid (show w1.heap[bx0]? = some (.cells #[.slice A0 xs.length c0, .slice B0 rs.length e0] 25 (0, 0)) from g0)
  have Sbx0 := Lib.hid hbx0
  clear g0 hbx0
  have X1_4 := Lib.hid (show w1.heap[bx1]? = some (.cells #[.slice A1 ys.length c1, .slice B1 ss.length e1] 25 (0, 0)) from g1)
  have Sbx1 := Lib.hid hbx1
  clear g1 hbx1
  clear hE
  have qX00 : w1.cell? ⟨bx0, 0, none⟩ = some (.slice A0 xs.length c0) := block_cell X0_3.out 0
  have qX01 : w1.cell? ⟨bx0, 1, none⟩ = some (.slice B0 rs.length e0) := block_cell X0_3.out 1
  have lX0 := block_lt X0_3.out
  go_wp2_with fail
  clear qX00 qX01 lX0
  refine (F0.out _ HE_2.out).mono ?_
  rintro e w2 ⟨rfl, hE⟩
  have HE_5 := Lib.hid (ext_trans HE_2.out hE)
  clear HE_2
  have X0_6 := Lib.hid ((ext_block hE (block_lt X0_3.out)).trans X0_3.out)
  clear X0_3
  have X1_7 := Lib.hid ((ext_block hE (block_lt X1_4.out)).trans X1_4.out)
  clear X1_4
  clear hE
  obtain ⟨f0, hf0⟩ : ∃ f, f = fewB xs rs := ⟨_, rfl⟩
  rw [← hf0]
  have HF0 := Lib.hid hf0
  clear hf0
  cases f0
  · skip
    go_wp2_with fail
    refine (awake_any _).mono ?_
    rintro e w3 ⟨rfl, hE⟩
    have HE_8 := Lib.hid (ext_trans HE_5.out hE)
    clear HE_5
    have X0_9 := Lib.hid ((ext_block hE (block_lt X0_6.out)).trans X0_6.out)
    clear X0_6
    have X1_10 := Lib.hid ((ext_block hE (block_lt X1_7.out)).trans X1_7.out)
    clear X1_7
    clear hE
    go_wp2
    refine bodyPost_ret (results_tmp rfl _ _ _) rfl ?_
    exact ⟨rfl, HE_8.out⟩
  have qX10 : w2.cell? ⟨bx1, 0, none⟩ = some (.slice A1 ys.length c1) := block_cell X1_7.out 0
  have qX11 : w2.cell? ⟨bx1, 1, none⟩ = some (.slice B1 ss.length e1) := block_cell X1_7.out 1
  have lX1 := block_lt X1_7.out
  go_wp2_with fail
  clear qX10 qX11 lX1
  refine (F1.out _ HE_5.out).mono ?_
  rintro e w4 ⟨rfl, hE⟩
  have HE_11 := Lib.hid (ext_trans HE_5.out hE)
  clear HE_5
  have X0_12 := Lib.hid ((ext_block hE (block_lt X0_6.out)).trans X0_6.out)
  clear X0_6
  have X1_13 := Lib.hid ((ext_block hE (block_lt X1_7.out)).trans X1_7.out)
  clear X1_7
  clear hE
  obtain ⟨f1, hf1⟩ : ∃ f, f = fewB ys ss := ⟨_, rfl⟩
  rw [← hf1]
  have HF1 := Lib.hid hf1
  clear hf1
  cases f1
  · skip
    go_wp2_with fail
    refine (awake_any _).mono ?_
    rintro e w5 ⟨rfl, hE⟩
    have HE_14 := Lib.hid (ext_trans HE_11.out hE)
    clear HE_11
    have X0_15 := Lib.hid ((ext_block hE (block_lt X0_12.out)).trans X0_12.out)
    clear X0_12
    have X1_16 := Lib.hid ((ext_block hE (block_lt X1_13.out)).trans X1_13.out)
    clear X1_13
    clear hE
    go_wp2
    refine bodyPost_ret (results_tmp rfl _ _ _) rfl ?_
    exact ⟨rfl, HE_14.out⟩
  obtain ⟨U, hU⟩ : ∃ U, U = setS (namesOf xs) := ⟨_, rfl⟩
  obtain ⟨M, hM⟩ : ∃ M, M = docT xs rs := ⟨_, rfl⟩
  have IT0 := Lib.hid (show IsT U M by rw [hU, hM]; exact isT_of HF0.out.symm)
  have DU := Lib.hid hU
  have DM := Lib.hid hM
  clear hU hM
  have qX00 : w4.cell? ⟨bx0, 0, none⟩ = some (.slice A0 xs.length c0) := block_cell X0_12.out 0
  have qX01 : w4.cell? ⟨bx0, 1, none⟩ = some (.slice B0 rs.length e0) := block_cell X0_12.out 1
  have lX0 := block_lt X0_12.out
  go_wp2_with fail
  clear qX00 qX01 lX0
  refine (build_spec _ xs rs U M _ DU.out DM.out (rawV_ext HR0.out HE_11.out) HF0.out.symm).mono ?_
  rintro e w6 ⟨P0, i0, Q0, j0, D0, k0, G0, o0, rfl, how, htd, hE⟩
  have HE_17 := Lib.hid (ext_trans HE_11.out hE)
  clear HE_11
  have X0_18 := Lib.hid ((ext_block hE (block_lt X0_12.out)).trans X0_12.out)
  clear X0_12
  have X1_19 := Lib.hid ((ext_block hE (block_lt X1_13.out)).trans X1_13.out)
  clear X1_13
  clear hE
  have bu0 : U.length ≤ 5 := IT0.out.vars
  have br0 : M.length ≤ 8 := IT0.out.rows
  have OA0_20 := Lib.hid (how)
  have TD0_21 := Lib.hid (htd)
  clear how htd
  obtain ⟨V, hV⟩ : ∃ U, U = setS (namesOf ys) := ⟨_, rfl⟩
  obtain ⟨N, hN⟩ : ∃ M, M = docT ys ss := ⟨_, rfl⟩
  have IT1 := Lib.hid (show IsT V N by rw [hV, hN]; exact isT_of HF1.out.symm)
  have DV := Lib.hid hV
  have DN := Lib.hid hN
  clear hV hN
  have qX10 : w6.cell? ⟨bx1, 0, none⟩ = some (.slice A1 ys.length c1) := block_cell X1_19.out 0
  have qX11 : w6.cell? ⟨bx1, 1, none⟩ = some (.slice B1 ss.length e1) := block_cell X1_19.out 1
  have lX1 := block_lt X1_19.out
  go_wp2_with fail
  clear qX10 qX11 lX1
  refine (build_spec _ ys ss V N _ DV.out DN.out (rawV_ext HR1.out (ext_trans HE_17.out (ext_alloc (ext_alloc (ext_refl _) _) _))) HF1.out.symm).mono ?_
  rintro e w7 ⟨P1, i1, Q1, j1, D1, k1, G1, o1, rfl, how, htd, hE⟩
  obtain ⟨hE, g0, g1⟩ := ext2 hE
  have HE_22 := Lib.hid (ext_trans HE_17.out hE)
  clear HE_17
  have X0_23 := Lib.hid ((ext_block hE (block_lt X0_18.out)).trans X0_18.out)
  clear X0_18
  have X1_24 := Lib.hid ((ext_block hE (block_lt X1_19.out)).trans X1_19.out)
  clear X1_19
  have OA0_25 := Lib.hid (own_ext OA0_20.out hE)
  clear OA0_20
  have TD0_26 := Lib.hid (tD_ext TD0_21.out hE)
  clear TD0_21
  obtain ⟨ca0, hca0⟩ : ∃ ca0, ca0 = w6.heap.size := ⟨_, rfl⟩
  obtain ⟨cm0, hcm0⟩ : ∃ cm0, cm0 = w6.heap.size + 1 := ⟨_, rfl⟩
  try rw [← hcm0]
  rw [← hcm0] at g1
  try rw [← hca0]
  rw [← hca0] at g0
  have CA0_27 := Lib.hid (show w7.heap[ca0]? = some (.cells #[.slice P0 U.length i0, .slice Q0 M.length j0] 31 (0, 0)) from g0)
  have Sca0 := Lib.hid hca0
  clear g0 hca0
  have CM0_28 := Lib.hid (show w7.heap[cm0]? = some (.cells #[.slice D0 U.length k0, .slice G0 M.length o0] 34 (0, 0)) from g1)
  have Scm0 := Lib.hid hcm0
  clear g1 hcm0
  clear hE
  have bu1 : V.length ≤ 5 := IT1.out.vars
  have br1 : N.length ≤ 8 := IT1.out.rows
  have OA1_29 := Lib.hid (how)
  have TD1_30 := Lib.hid (htd)
  clear how htd
  have TB0 := Lib.hid (tb_isT IT0.out DM.out)
  have TB1 := Lib.hid (tb_isT IT1.out DN.out)
  go_wp2
  obtain ⟨W8, hW⟩ : ∃ W, W = (w7.alloc (.cells #[.slice P1 V.length i1, .slice Q1 N.length j1] 31)).alloc (.cells #[.slice D1 V.length k1, .slice G1 N.length o1] 34) := ⟨_, rfl⟩
  have hE : Ext w7 W8 := by rw [hW]; exact ext_alloc (ext_alloc (ext_refl _) _) _
  obtain ⟨ca1, hca1⟩ : ∃ b, b = w7.heap.size := ⟨_, rfl⟩
  obtain ⟨cm1, hcm1⟩ : ∃ b, b = w7.heap.size + 1 := ⟨_, rfl⟩
  have g0 : W8.heap[ca1]? = some (.cells #[.slice P1 V.length i1, .slice Q1 N.length j1] 31 (0, 0)) := by rw [hW, hca1]; exact (heap_two w7 (.cells #[.slice P1 V.length i1, .slice Q1 N.length j1] 31) (.cells #[.slice D1 V.length k1, .slice G1 N.length o1] 34)).1
  have g1 : W8.heap[cm1]? = some (.cells #[.slice D1 V.length k1, .slice G1 N.length o1] 34 (0, 0)) := by rw [hW, hcm1]; exact (heap_two w7 (.cells #[.slice P1 V.length i1, .slice Q1 N.length j1] 31) (.cells #[.slice D1 V.length k1, .slice G1 N.length o1] 34)).2
  have Sca1 := Lib.hid hca1
  have Scm1 := Lib.hid hcm1
  try rw [← hW]
  try rw [← hcm1]
  try rw [← hca1]
  have HE_31 := Lib.hid (ext_trans HE_22.out hE)
  clear HE_22
  have X0_32 := Lib.hid ((ext_block hE (block_lt X0_23.out)).trans X0_23.out)
  clear X0_23
  have X1_33 := Lib.hid ((ext_block hE (block_lt X1_24.out)).trans X1_24.out)
  clear X1_24
  have OA0_34 := Lib.hid (own_ext OA0_25.out hE)
  clear OA0_25
  have TD0_35 := Lib.hid (tD_ext TD0_26.out hE)
  clear TD0_26
  have CA0_36 := Lib.hid ((ext_block hE (block_lt CA0_27.out)).trans CA0_27.out)
  clear CA0_27
  have CM0_37 := Lib.hid ((ext_block hE (block_lt CM0_28.out)).trans CM0_28.out)
  clear CM0_28
  have OA1_38 := Lib.hid (own_ext OA1_29.out hE)
  clear OA1_29
  have TD1_39 := Lib.hid (tD_ext TD1_30.out hE)
  clear TD1_30
  have CA1_40 := Lib.hid (show W8.heap[ca1]? = some (.cells #[.slice P1 V.length i1, .slice Q1 N.length j1] 31 (0, 0)) from g0)
  clear g0 hca1
  have CM1_41 := Lib.hid (show W8.heap[cm1]? = some (.cells #[.slice D1 V.length k1, .slice G1 N.length o1] 34 (0, 0)) from g1)
  clear g1 hcm1
  clear hE hW
  obtain ⟨H0, hH0⟩ : ∃ H, H = W8.heap.size := ⟨_, rfl⟩
  have HH0 := Lib.hid hH0
  clear hH0
  have qCA00 : W8.cell? ⟨ca0, 0, none⟩ = some (.slice P0 U.length i0) := block_cell CA0_36.out 0
  have qCA01 : W8.cell? ⟨ca0, 1, none⟩ = some (.slice Q0 M.length j0) := block_cell CA0_36.out 1
  have lCA0 := block_lt CA0_36.out
  have qCA10 : W8.cell? ⟨ca1, 0, none⟩ = some (.slice P1 V.length i1) := block_cell CA1_40.out 0
  have qCA11 : W8.cell? ⟨ca1, 1, none⟩ = some (.slice Q1 N.length j1) := block_cell CA1_40.out 1
  have lCA1 := block_lt CA1_40.out
  have hgc := cell_grown
  have uCA00 : ∀ w', Ext W8 w' → w'.cell? ⟨ca0, 0, none⟩ = some (.slice P0 U.length i0) := fun w' hE => (ext_cell hE _ _ lCA0).trans qCA00
  have uCA01 : ∀ w', Ext W8 w' → w'.cell? ⟨ca0, 1, none⟩ = some (.slice Q0 M.length j0) := fun w' hE => (ext_cell hE _ _ lCA0).trans qCA01
  have uCA10 : ∀ w', Ext W8 w' → w'.cell? ⟨ca1, 0, none⟩ = some (.slice P1 V.length i1) := fun w' hE => (ext_cell hE _ _ lCA1).trans qCA10
  have uCA11 : ∀ w', Ext W8 w' → w'.cell? ⟨ca1, 1, none⟩ = some (.slice Q1 N.length j1) := fun w' hE => (ext_cell hE _ _ lCA1).trans qCA11
  refine wp_region_each [] [0, 1, 3, 4] [(2, false, (fun _ => True), TabQ H0 (setS (U ++ V)) (joinQ M N)), (5, false, (fun _ => True), TabQ H0 (setS (U ++ V)) (M ++ N)), (6, true, (fun v => ∃ g, v = .pointer (some ⟨g, 0, none⟩)), CellF W8.heap.size), (7, true, (fun v => ∃ g, v = .pointer (some ⟨g, 0, none⟩)), CellF W8.heap.size)] [8, 9] [2, 5, 6, 7] rfl (by kernel_rfl) (by kernel_rfl) (fun _ _ d _ _ h => by cases d <;> exact h) ?_
  refine wpPre_nil ?_
  repeat (refine wpLoose_step rfl (fun K hK => ?_); (try simp only [Oper.quietAt, Oper.quietUpon]); go_simp; (refine hK _ ?_; clear hK K))
  refine wpLoose_nil ?_
  clear qCA00 qCA01 lCA0 qCA10 qCA11 lCA1 hgc
  refine wpGz_step1 rfl tabF_ext ⟨undef, trivial⟩ (fun w6 hE6 hS6 => ?_) (fun v2 _ K hK => ?_)
  · simp only [opAt, runsAt]
    go_simp
    refine (joinT _ _ w6 ⟨_, _, rfl, own_low (own_ext OA0_34.out hE6) (Nat.zero_le _)⟩ ⟨_, _, rfl, own_low (own_ext OA1_38.out hE6) (Nat.zero_le _)⟩  TB0.out TB1.out (by omega) (by omega) (by omega) (by omega) (by omega)).mono ?_
    rintro e w7 ⟨v', rfl, h3, h4⟩
    exact ⟨_, rfl, h4, by obtain ⟨x1, x2, x3, x4⟩ := h3; exact ⟨x1, x2, x3, own_low x4 (by rw [HH0.out]; exact ext_size hE6)⟩⟩
  go_simp
  refine hK _ ?_
  clear hK K
  refine wpGz_step1 rfl tabF_ext ⟨undef, trivial⟩ (fun w6 hE6 hS6 => ?_) (fun v5 _ K hK => ?_)
  · simp only [opAt, runsAt]
    go_simp
    refine (unionT _ _ w6 ⟨_, _, rfl, own_low (own_ext OA0_34.out hE6) (Nat.zero_le _)⟩ ⟨_, _, rfl, own_low (own_ext OA1_38.out hE6) (Nat.zero_le _)⟩  TB0.out TB1.out (by omega) (by omega) (by omega) (by omega)).mono ?_
    rintro e w7 ⟨v', rfl, h3, h4⟩
    exact ⟨_, rfl, h4, by obtain ⟨x1, x2, x3, x4⟩ := h3; exact ⟨x1, x2, x3, own_low x4 (by rw [HH0.out]; exact ext_size hE6)⟩⟩
  go_simp
  refine hK _ ?_
  clear hK K
  refine wpGz_fresh rfl cellF_ext (fun w6 hE6 hS6 => ?_) (fun g6 => ?_)
  · simp only [opAt, runsAt]
    go_simp
    exact ⟨ext_alloc (ext_refl _) _, ⟨w6.heap.size, rfl, Nat.le_refl _, by simp⟩, w6.heap.size, rfl, ext_size hE6, heap_alloc_new w6 _⟩
  refine wpGz_fresh rfl cellF_ext (fun w6 hE6 hS6 => ?_) (fun g7 => ?_)
  · simp only [opAt, runsAt]
    go_simp
    exact ⟨ext_alloc (ext_refl _) _, ⟨w6.heap.size, rfl, Nat.le_refl _, by simp⟩, w6.heap.size, rfl, ext_size hE6, heap_alloc_new w6 _⟩
  refine wpGz_nil (fun w6 hE6 hS6 => ?_)
  obtain ⟨x2, y2, hv2, h2⟩ : TabQ H0 (setS (U ++ V)) (joinQ M N) v2 w6 := hS6.1 _ (List.mem_cons_of_mem _ (List.mem_cons_of_mem _ (List.mem_cons_of_mem _ (List.mem_cons_self ..))))
  obtain ⟨x5, y5, hv5, h5⟩ : TabQ H0 (setS (U ++ V)) (M ++ N) v5 w6 := hS6.1 _ (List.mem_cons_of_mem _ (List.mem_cons_of_mem _ (List.mem_cons_self ..)))
  obtain ⟨g6', e6, k6, f6⟩ : CellF W8.heap.size (.pointer (some ⟨g6, 0, none⟩)) w6 := hS6.1 _ (List.mem_cons_of_mem _ (List.mem_cons_self ..))
  obtain ⟨g7', e7, k7, f7⟩ : CellF W8.heap.size (.pointer (some ⟨g7, 0, none⟩)) w6 := hS6.1 _ (List.mem_cons_self ..)
  simp only [Value.pointer.injEq, Option.some.injEq, Addr.mk.injEq, and_true] at e6 e7
  subst e6 e7
  have hne : g6 ≠ g7 := fun e => hS6.2 _ (List.mem_cons_of_mem _ (List.mem_cons_self ..)) _ (List.mem_cons_self ..) rfl rfl (show (6 : Nat) ≠ 7 by decide) (by rw [e])
  clear hS6 uCA00 uCA01 uCA10 uCA11
  subst hv2 hv5
  obtain ⟨A2, c2, rfl⟩ := rdS_form (rdS_row h2.1.1)
  obtain ⟨B2, d2, rfl⟩ := rdW_form (own_rdW h2)
  obtain ⟨A5, c5, rfl⟩ := rdS_form (rdS_row h5.1.1)
  obtain ⟨B5, d5, rfl⟩ := rdW_form (own_rdW h5)
  obtain ⟨JV, hJV⟩ : ∃ J, J = (setS (U ++ V)) := ⟨_, rfl⟩
  obtain ⟨JR, hJR⟩ : ∃ J, J = joinQ M N := ⟨_, rfl⟩
  obtain ⟨JU, hJU⟩ : ∃ J, J = M ++ N := ⟨_, rfl⟩
  have DJU := Lib.hid hJU
  have DJV := Lib.hid hJV
  have DJR := Lib.hid hJR
  rw [← hJV, ← hJR] at h2
  rw [← hJV, ← hJU] at h5
  rw [rowsD_len] at h2 h5 ⊢
  rw [rowsD_len]
  rw [← hJV, ← hJR, ← hJU]
  have TBOJ := Lib.hid (show Tb 10 64 JV JR by rw [hJV, hJR]; exact tb_join TB0.out TB1.out)
  have TBOU := Lib.hid (show Tb 10 16 JV JU by rw [hJV, hJU]; exact tb_both TB0.out TB1.out)
  clear hJV hJR hJU
  have H2 := Lib.hid h2
  have H5 := Lib.hid h5
  have F6 := Lib.hid f6
  have F7 := Lib.hid f7
  have HK := Lib.hid (show W8.heap.size ≤ g6 ∧ W8.heap.size ≤ g7 from ⟨k6, k7⟩)
  have HNE := Lib.hid hne
  have HE6 := Lib.hid hE6
  have p0 : w6.cell? ⟨g6, 0, none⟩ = some (.slice none 0 0) := block_cell f6 0
  have p1 : w6.cell? ⟨g6, 1, none⟩ = some (.slice none 0 0) := block_cell f6 1
  have p2 : w6.cell? ⟨g7, 0, none⟩ = some (.slice none 0 0) := block_cell f7 0
  have p3 : w6.cell? ⟨g7, 1, none⟩ = some (.slice none 0 0) := block_cell f7 1
  have s0 : w6.frozen? ⟨g6, 0, none⟩ = false := block_frozen f6 0
  have s1 : w6.frozen? ⟨g6, 1, none⟩ = false := block_frozen f6 1
  have s2 : w6.frozen? ⟨g7, 0, none⟩ = false := block_frozen f7 0
  have s3 : w6.frozen? ⟨g7, 1, none⟩ = false := block_frozen f7 1
  have t6 := block_lt f6
  have t7 := block_lt f7
  have z0 : ∀ a b, ((w6.setCell ⟨g6, 0, none⟩ a).setCell ⟨g6, 1, none⟩ b).cell? ⟨g7, 0, none⟩ = some (.slice none 0 0) := fun a b => (upd_cell (upd_trans (fp := fun q => q = g6) (upd_setCell (w := w6) (a := ⟨g6, 0, none⟩) a) (upd_setCell (a := ⟨g6, 1, none⟩) b) (fun _ _ h => h)) t7 (fun e => hne e.symm) 0).trans p2
  have z1 : ∀ a b, ((w6.setCell ⟨g6, 0, none⟩ a).setCell ⟨g6, 1, none⟩ b).cell? ⟨g7, 1, none⟩ = some (.slice none 0 0) := fun a b => (upd_cell (upd_trans (fp := fun q => q = g6) (upd_setCell (w := w6) (a := ⟨g6, 0, none⟩) a) (upd_setCell (a := ⟨g6, 1, none⟩) b) (fun _ _ h => h)) t7 (fun e => hne e.symm) 1).trans p3
  clear h2 h5 f6 f7 k6 k7 hE6
  refine wpSeq_of_list [8, 9] [_, _] _ _ rfl ?_
  go_wp2
  
  obtain ⟨W9, hW⟩ : ∃ W, W = (((w6.setCell ⟨g6, 0, none⟩ (.slice A2 JV.length c2)).setCell ⟨g6, 1, none⟩ (.slice B2 JR.length d2)).setCell ⟨g7, 0, none⟩ (.slice A5 JV.length c5)).setCell ⟨g7, 1, none⟩ (.slice B5 JU.length d5) := ⟨_, rfl⟩
  rw [← hW]
  have hU1 : Upd (fun q => q = g6) w6 ((w6.setCell ⟨g6, 0, none⟩ (.slice A2 JV.length c2)).setCell ⟨g6, 1, none⟩ (.slice B2 JR.length d2)) := upd_trans (fp := fun q => q = g6) (upd_setCell (w := w6) (a := ⟨g6, 0, none⟩) _) (upd_setCell (a := ⟨g6, 1, none⟩) _) (fun _ _ h => h)
  have hU2 : Upd (fun q => q = g7) ((w6.setCell ⟨g6, 0, none⟩ (.slice A2 JV.length c2)).setCell ⟨g6, 1, none⟩ (.slice B2 JR.length d2)) W9 := by rw [hW]; exact upd_trans (fp := fun q => q = g7) (upd_setCell (a := ⟨g7, 0, none⟩) _) (upd_setCell (a := ⟨g7, 1, none⟩) _) (fun _ _ h => h)
  have hUW : Upd (fun q => q = g6 ∨ q = g7) w6 W9 := upd_trans (upd_mono hU1 (fun _ _ h => .inl h)) hU2 (fun _ _ h => .inr h)
  have hcj1 := heap_setCell_at (j := 1) (u := .slice B2 JR.length d2) (heap_setCell_at (j := 0) (u := .slice A2 JV.length c2) F6.out)
  have hcj : W9.heap[g6]? = some (.cells #[.slice A2 JV.length c2, .slice B2 JR.length d2] 31 (0, 0)) := (hU2.block g6 (block_lt hcj1) HNE.out).trans hcj1
  have hcu0 := (hU1.block g7 (block_lt F7.out) (fun e => HNE.out e.symm)).trans F7.out
  have hcu : W9.heap[g7]? = some (.cells #[.slice A5 JV.length c5, .slice B5 JU.length d5] 31 (0, 0)) := by rw [hW]; exact heap_setCell_at (j := 1) (u := .slice B5 JU.length d5) (heap_setCell_at (j := 0) (u := .slice A5 JV.length c5) hcu0)
  have hty : ∀ b, (b = g6 ∨ b = g7) → ∀ cur t, w6.heap[b]? = some (.cells cur t (0, 0)) → t ≠ 9 ∧ t ≠ 41 ∧ t ≠ 3 := fun b hb cur t hbt => by
    have h : t = 31 := by
      rcases hb with rfl | rfl
      · rw [F6.out] at hbt
        simp only [Option.some.injEq, Obj.cells.injEq] at hbt
        exact hbt.2.1.symm
      · rw [F7.out] at hbt
        simp only [Option.some.injEq, Obj.cells.injEq] at hbt
        exact hbt.2.1.symm
    rw [h]
    decide
  have hoj := own_off H2.out hUW hty
  have hou := own_off H5.out hUW hty
  have hEW : Ext W8 W9 := ext_upd HE6.out hUW (fun b hb => by have := HK.out; rcases hb with rfl | rfl <;> omega)
  clear hW hU1 hU2 hUW hcj1 hcu0 hty p0 p1 p2 p3 s0 s1 s2 s3 t6 t7 z0 z1 H2 H5 F6 F7 HK HNE HE6
  have KOA0 := OA0_34
  have KOA1 := OA1_38
  have KTD0 := TD0_35
  have KTD1 := TD1_39
  have KCA0 := CA0_36
  have KCA1 := CA1_40
  have KCM0 := CM0_37
  have KCM1 := CM1_41
  have KHE := HE_31
  have HE_42 := Lib.hid (ext_trans HE_31.out hEW)
  clear HE_31
  have X0_43 := Lib.hid ((ext_block hEW (block_lt X0_32.out)).trans X0_32.out)
  clear X0_32
  have X1_44 := Lib.hid ((ext_block hEW (block_lt X1_33.out)).trans X1_33.out)
  clear X1_33
  have OA0_45 := Lib.hid (own_ext OA0_34.out hEW)
  clear OA0_34
  have TD0_46 := Lib.hid (tD_ext TD0_35.out hEW)
  clear TD0_35
  have CA0_47 := Lib.hid ((ext_block hEW (block_lt CA0_36.out)).trans CA0_36.out)
  clear CA0_36
  have CM0_48 := Lib.hid ((ext_block hEW (block_lt CM0_37.out)).trans CM0_37.out)
  clear CM0_37
  have OA1_49 := Lib.hid (own_ext OA1_38.out hEW)
  clear OA1_38
  have TD1_50 := Lib.hid (tD_ext TD1_39.out hEW)
  clear TD1_39
  have CA1_51 := Lib.hid ((ext_block hEW (block_lt CA1_40.out)).trans CA1_40.out)
  clear CA1_40
  have CM1_52 := Lib.hid ((ext_block hEW (block_lt CM1_41.out)).trans CM1_41.out)
  clear CM1_41
  have CJ_53 := Lib.hid (show W9.heap[g6]? = some (.cells #[.slice A2 JV.length c2, .slice B2 JR.length d2] 31 (0, 0)) from hcj)
  have CU_54 := Lib.hid (show W9.heap[g7]? = some (.cells #[.slice A5 JV.length c5, .slice B5 JU.length d5] 31 (0, 0)) from hcu)
  have OJ_55 := Lib.hid (hoj)
  have OU_56 := Lib.hid (hou)
  have HEB := Lib.hid hEW
  clear hEW hcj hcu hoj hou
  have qCA00 : W9.cell? ⟨ca0, 0, none⟩ = some (.slice P0 U.length i0) := block_cell CA0_47.out 0
  have qCA01 : W9.cell? ⟨ca0, 1, none⟩ = some (.slice Q0 M.length j0) := block_cell CA0_47.out 1
  have lCA0 := block_lt CA0_47.out
  have qCM00 : W9.cell? ⟨cm0, 0, none⟩ = some (.slice D0 U.length k0) := block_cell CM0_48.out 0
  have qCM01 : W9.cell? ⟨cm0, 1, none⟩ = some (.slice G0 M.length o0) := block_cell CM0_48.out 1
  have lCM0 := block_lt CM0_48.out
  have qCA10 : W9.cell? ⟨ca1, 0, none⟩ = some (.slice P1 V.length i1) := block_cell CA1_51.out 0
  have qCA11 : W9.cell? ⟨ca1, 1, none⟩ = some (.slice Q1 N.length j1) := block_cell CA1_51.out 1
  have lCA1 := block_lt CA1_51.out
  have qCM10 : W9.cell? ⟨cm1, 0, none⟩ = some (.slice D1 V.length k1) := block_cell CM1_52.out 0
  have qCM11 : W9.cell? ⟨cm1, 1, none⟩ = some (.slice G1 N.length o1) := block_cell CM1_52.out 1
  have lCM1 := block_lt CM1_52.out
  have qCJ0 : W9.cell? ⟨g6, 0, none⟩ = some (.slice A2 JV.length c2) := block_cell CJ_53.out 0
  have qCJ1 : W9.cell? ⟨g6, 1, none⟩ = some (.slice B2 JR.length d2) := block_cell CJ_53.out 1
  have lCJ := block_lt CJ_53.out
  have qCU0 : W9.cell? ⟨g7, 0, none⟩ = some (.slice A5 JV.length c5) := block_cell CU_54.out 0
  have qCU1 : W9.cell? ⟨g7, 1, none⟩ = some (.slice B5 JU.length d5) := block_cell CU_54.out 1
  have lCU := block_lt CU_54.out
  have hgc := cell_grown
  have uCA00 : ∀ w', Ext W9 w' → w'.cell? ⟨ca0, 0, none⟩ = some (.slice P0 U.length i0) := fun w' hE => (ext_cell hE _ _ lCA0).trans qCA00
  have uCA01 : ∀ w', Ext W9 w' → w'.cell? ⟨ca0, 1, none⟩ = some (.slice Q0 M.length j0) := fun w' hE => (ext_cell hE _ _ lCA0).trans qCA01
  have uCM00 : ∀ w', Ext W9 w' → w'.cell? ⟨cm0, 0, none⟩ = some (.slice D0 U.length k0) := fun w' hE => (ext_cell hE _ _ lCM0).trans qCM00
  have uCM01 : ∀ w', Ext W9 w' → w'.cell? ⟨cm0, 1, none⟩ = some (.slice G0 M.length o0) := fun w' hE => (ext_cell hE _ _ lCM0).trans qCM01
  have uCA10 : ∀ w', Ext W9 w' → w'.cell? ⟨ca1, 0, none⟩ = some (.slice P1 V.length i1) := fun w' hE => (ext_cell hE _ _ lCA1).trans qCA10
  have uCA11 : ∀ w', Ext W9 w' → w'.cell? ⟨ca1, 1, none⟩ = some (.slice Q1 N.length j1) := fun w' hE => (ext_cell hE _ _ lCA1).trans qCA11
  have uCM10 : ∀ w', Ext W9 w' → w'.cell? ⟨cm1, 0, none⟩ = some (.slice D1 V.length k1) := fun w' hE => (ext_cell hE _ _ lCM1).trans qCM10
  have uCM11 : ∀ w', Ext W9 w' → w'.cell? ⟨cm1, 1, none⟩ = some (.slice G1 N.length o1) := fun w' hE => (ext_cell hE _ _ lCM1).trans qCM11
  have uCJ0 : ∀ w', Ext W9 w' → w'.cell? ⟨g6, 0, none⟩ = some (.slice A2 JV.length c2) := fun w' hE => (ext_cell hE _ _ lCJ).trans qCJ0
  have uCJ1 : ∀ w', Ext W9 w' → w'.cell? ⟨g6, 1, none⟩ = some (.slice B2 JR.length d2) := fun w' hE => (ext_cell hE _ _ lCJ).trans qCJ1
  have uCU0 : ∀ w', Ext W9 w' → w'.cell? ⟨g7, 0, none⟩ = some (.slice A5 JV.length c5) := fun w' hE => (ext_cell hE _ _ lCU).trans qCU0
  have uCU1 : ∀ w', Ext W9 w' → w'.cell? ⟨g7, 1, none⟩ = some (.slice B5 JU.length d5) := fun w' hE => (ext_cell hE _ _ lCU).trans qCU1
  refine wp_region_each [] [0, 1] [(2, false, (fun v => v = .bool true), fun _ _ => True), (3, false, (fun v => v = .bool false), fun _ _ => True), (4, false, (fun v => v = .bool false), fun _ _ => True), (5, false, (fun v => v = (.agg #[.slice P1 V.length i1, .slice Q1 N.length j1])), fun _ _ => True), (6, false, (fun v => v = (.agg #[.slice D1 V.length k1, .slice G1 N.length o1])), fun _ _ => True), (7, false, (fun v => v = .bool true), fun _ _ => True), (8, false, (fun v => v = .bool false), fun _ _ => True), (9, false, (fun v => v = .bool false), fun _ _ => True), (10, false, (fun v => v = .bool false), fun _ _ => True), (11, false, (fun v => v = (.agg #[.slice A2 JV.length c2, .slice B2 JR.length d2])), fun _ _ => True), (12, false, (fun v => v = (.agg #[.slice D0 U.length k0, .slice G0 M.length o0])), fun _ _ => True), (13, false, (fun v => v = (.agg #[.slice D1 V.length k1, .slice G1 N.length o1])), fun _ _ => True), (14, false, (fun _ => True), fun v w' => TD w' v (setS (U ++ V)) (joinQ M N)), (15, false, (fun v => v = .bool true), fun _ _ => True), (16, false, (fun v => v = .bool false), fun _ _ => True), (17, false, (fun v => v = .bool false), fun _ _ => True), (18, false, (fun v => v = .bool false), fun _ _ => True), (19, false, (fun v => v = (.agg #[.slice A5 JV.length c5, .slice B5 JU.length d5])), fun _ _ => True), (20, false, (fun v => v = (.agg #[.slice D0 U.length k0, .slice G0 M.length o0])), fun _ _ => True), (21, false, (fun v => v = (.agg #[.slice D1 V.length k1, .slice G1 N.length o1])), fun _ _ => True), (22, false, (fun _ => True), fun v w' => TD w' v (setS (U ++ V)) (M ++ N)), (23, false, (fun v => v = .bool true), fun _ _ => True), (24, false, (fun v => v = .bool false), fun _ _ => True), (25, false, (fun v => v = .bool false), fun _ _ => True), (26, false, (fun v => v = .bool false), fun _ _ => True), (27, false, (fun v => v = (.agg #[.slice A2 JV.length c2, .slice B2 JR.length d2])), fun _ _ => True), (28, false, (fun v => v = (.agg #[.slice P1 V.length i1, .slice Q1 N.length j1])), fun _ _ => True), (29, false, (fun v => v = (.agg #[.slice P0 U.length i0, .slice Q0 M.length j0])), fun _ _ => True), (30, false, (fun _ => True), TabQ 0 (setS (V ++ U)) (joinQ N M)), (31, false, (fun v => v = .bool true), fun _ _ => True), (32, false, (fun v => v = .bool false), fun _ _ => True), (33, false, (fun v => v = .bool false), fun _ _ => True), (34, false, (fun v => v = .bool false), fun _ _ => True), (35, false, (fun v => v = (.agg #[.slice A5 JV.length c5, .slice B5 JU.length d5])), fun _ _ => True), (36, false, (fun v => v = (.agg #[.slice P1 V.length i1, .slice Q1 N.length j1])), fun _ _ => True), (37, false, (fun v => v = (.agg #[.slice P0 U.length i0, .slice Q0 M.length j0])), fun _ _ => True), (38, false, (fun _ => True), TabQ 0 (setS (V ++ U)) (N ++ M)), (39, false, (fun v => v = .bool true), fun _ _ => True), (40, false, (fun v => v = .bool false), fun _ _ => True), (41, false, (fun v => v = .bool false), fun _ _ => True)] [] [2, 3, 4, 5, 6, 7, 8, 9, 10, 11, 12, 13, 14, 15, 16, 17, 18, 19, 20, 21, 22, 23, 24, 25, 26, 27, 28, 29, 30, 31, 32, 33, 34, 35, 36, 37, 38, 39, 40, 41] rfl (by kernel_rfl) (by kernel_rfl) (fun _ _ d _ _ h => by cases d <;> exact h) ?_
  refine wpPre_nil ?_
  repeat (refine wpLoose_step rfl (fun K hK => ?_); (try simp only [Oper.quietAt, Oper.quietUpon]); go_simp; (refine hK _ ?_; clear hK K))
  refine wpLoose_nil ?_
  clear qCA00 qCA01 lCA0 qCM00 qCM01 lCM0 qCA10 qCA11 lCA1 qCM10 qCM11 lCM1 qCJ0 qCJ1 lCJ qCU0 qCU1 lCU hgc
  refine wpGz_pure1 (fun _ _ _ h h1 w' hw hs => h1 w' hw (h _ hs)) rfl (fun w6 hE6 hS6 => ?_) (fun K hK => ?_)
  · simp only [opAt, runsAt]
    go_simp
    refine (isT _ _ w6 ⟨_, _, rfl, own_low (own_ext OA0_45.out hE6) (Nat.zero_le _)⟩ (tD_ext TD0_46.out hE6) TB0.out (by omega) (by omega)).mono ?_
    rintro e w7 ⟨rfl, h4⟩
    first | exact ⟨rfl, h4⟩ | exact ⟨_, rfl, h4, rfl⟩
  go_simp
  refine hK _ ?_
  clear hK K
  refine wpGz_pure1 (fun _ _ _ h h1 w' hw hs => h1 w' hw (h _ hs)) rfl (fun w6 hE6 hS6 => ?_) (fun K hK => ?_)
  · simp only [opAt, runsAt]
    go_simp
    all_goals (first | exact ⟨ext_refl _, rfl⟩ | exact ext_refl _ | rfl | trivial)
  go_simp
  refine hK _ ?_
  clear hK K
  refine wpGz_pure1 (fun _ _ _ h h1 w' hw hs => h1 w' hw (h _ hs)) rfl (fun w6 hE6 hS6 => ?_) (fun K hK => ?_)
  · simp only [opAt, runsAt]
    go_simp
    all_goals (first | exact ⟨ext_refl _, rfl⟩ | exact ext_refl _ | rfl | trivial)
  go_simp
  refine hK _ ?_
  clear hK K
  refine wpGz_pure1 (fun _ _ _ h h1 w' hw hs => h1 w' hw (h _ hs)) rfl (fun w6 hE6 hS6 => ?_) (fun K hK => ?_)
  · simp only [opAt, runsAt]
    go_simp
    all_goals (first | exact ⟨ext_refl _, rfl⟩ | exact ext_refl _ | rfl | trivial)
  go_simp
  refine hK _ ?_
  clear hK K
  refine wpGz_pure1 (fun _ _ _ h h1 w' hw hs => h1 w' hw (h _ hs)) rfl (fun w6 hE6 hS6 => ?_) (fun K hK => ?_)
  · simp only [opAt, runsAt]
    go_simp
    all_goals (first | exact ⟨ext_refl _, rfl⟩ | exact ext_refl _ | rfl | trivial)
  go_simp
  refine hK _ ?_
  clear hK K
  refine wpGz_pure1 (fun _ _ _ h h1 w' hw hs => h1 w' hw (h _ hs)) rfl (fun w6 hE6 hS6 => ?_) (fun K hK => ?_)
  · simp only [opAt, runsAt]
    go_simp
    refine (isT _ _ w6 ⟨_, _, rfl, own_low (own_ext OA1_49.out hE6) (Nat.zero_le _)⟩ (tD_ext TD1_50.out hE6) TB1.out (by omega) (by omega)).mono ?_
    rintro e w7 ⟨rfl, h4⟩
    first | exact ⟨rfl, h4⟩ | exact ⟨_, rfl, h4, rfl⟩
  go_simp
  refine hK _ ?_
  clear hK K
  refine wpGz_pure1 (fun _ _ _ h h1 w' hw hs => h1 w' hw (h _ hs)) rfl (fun w6 hE6 hS6 => ?_) (fun K hK => ?_)
  · simp only [opAt, runsAt]
    go_simp
    all_goals (first | exact ⟨ext_refl _, rfl⟩ | exact ext_refl _ | rfl | trivial)
  go_simp
  refine hK _ ?_
  clear hK K
  refine wpGz_pure1 (fun _ _ _ h h1 w' hw hs => h1 w' hw (h _ hs)) rfl (fun w6 hE6 hS6 => ?_) (fun K hK => ?_)
  · simp only [opAt, runsAt]
    go_simp
    all_goals (first | exact ⟨ext_refl _, rfl⟩ | exact ext_refl _ | rfl | trivial)
  go_simp
  refine hK _ ?_
  clear hK K
  refine wpGz_pure1 (fun _ _ _ h h1 w' hw hs => h1 w' hw (h _ hs)) rfl (fun w6 hE6 hS6 => ?_) (fun K hK => ?_)
  · simp only [opAt, runsAt]
    go_simp
    all_goals (first | exact ⟨ext_refl _, rfl⟩ | exact ext_refl _ | rfl | trivial)
  go_simp
  refine hK _ ?_
  clear hK K
  refine wpGz_pure1 (fun _ _ _ h h1 w' hw hs => h1 w' hw (h _ hs)) rfl (fun w6 hE6 hS6 => ?_) (fun K hK => ?_)
  · simp only [opAt, runsAt]
    go_simp
    all_goals (first | exact ⟨ext_refl _, rfl⟩ | exact ext_refl _ | rfl | trivial)
  go_simp
  refine hK _ ?_
  clear hK K
  refine wpGz_pure1 (fun _ _ _ h h1 w' hw hs => h1 w' hw (h _ hs)) rfl (fun w6 hE6 hS6 => ?_) (fun K hK => ?_)
  · simp only [opAt, runsAt]
    go_simp
    all_goals (first | exact ⟨ext_refl _, rfl⟩ | exact ext_refl _ | rfl | trivial)
  go_simp
  refine hK _ ?_
  clear hK K
  refine wpGz_pure1 (fun _ _ _ h h1 w' hw hs => h1 w' hw (h _ hs)) rfl (fun w6 hE6 hS6 => ?_) (fun K hK => ?_)
  · simp only [opAt, runsAt]
    go_simp
    all_goals (first | exact ⟨ext_refl _, rfl⟩ | exact ext_refl _ | rfl | trivial)
  go_simp
  refine hK _ ?_
  clear hK K
  refine wpGz_step1 rfl (fun v a b hE h => tD_ext h hE) ⟨undef, trivial⟩ (fun w6 hE6 hS6 => ?_) (fun v14 _ K hK => ?_)
  · simp only [opAt, runsAt]
    go_simp
    refine (rjoinT _ _ w6 (tD_ext TD0_46.out hE6) (tD_ext TD1_50.out hE6)  TB0.out TB1.out (by omega) (by omega) (by omega) (by omega)).mono ?_
    rintro e w7 ⟨v', rfl, h3, h4⟩
    exact ⟨_, rfl, h4, h3⟩
  go_simp
  refine hK _ ?_
  clear hK K
  refine wpGz_pure1 (fun _ _ _ h h1 w' hw hs => h1 w' hw (h _ hs)) rfl (fun w6 hE6 hS6 => ?_) (fun K hK => ?_)
  · have hdoc := fun (v : Value) (w : World) (h : TD w v (setS (U ++ V)) (joinQ M N)) => (show TD w v JV JR by rw [DJV.out, DJR.out]; exact h)
    simp only [opAt, runsAt]
    go_simp
    refine (isT _ _ w6 ⟨_, _, rfl, own_low (own_ext OJ_55.out hE6) (Nat.zero_le _)⟩ (hdoc _ _ (hS6 _ (List.mem_cons_self ..) (by kernel_rfl))) TBOJ.out (by omega) (by omega)).mono ?_
    rintro e w7 ⟨rfl, h4⟩
    first | exact ⟨rfl, h4⟩ | exact ⟨_, rfl, h4, rfl⟩
  go_simp
  refine hK _ ?_
  clear hK K
  refine wpGz_pure1 (fun _ _ _ h h1 w' hw hs => h1 w' hw (h _ hs)) rfl (fun w6 hE6 hS6 => ?_) (fun K hK => ?_)
  · simp only [opAt, runsAt]
    go_simp
    all_goals (first | exact ⟨ext_refl _, rfl⟩ | exact ext_refl _ | rfl | trivial)
  go_simp
  refine hK _ ?_
  clear hK K
  refine wpGz_pure1 (fun _ _ _ h h1 w' hw hs => h1 w' hw (h _ hs)) rfl (fun w6 hE6 hS6 => ?_) (fun K hK => ?_)
  · simp only [opAt, runsAt]
    go_simp
    all_goals (first | exact ⟨ext_refl _, rfl⟩ | exact ext_refl _ | rfl | trivial)
  go_simp
  refine hK _ ?_
  clear hK K
  refine wpGz_pure1 (fun _ _ _ h h1 w' hw hs => h1 w' hw (h _ hs)) rfl (fun w6 hE6 hS6 => ?_) (fun K hK => ?_)
  · simp only [opAt, runsAt]
    go_simp
    all_goals (first | exact ⟨ext_refl _, rfl⟩ | exact ext_refl _ | rfl | trivial)
  go_simp
  refine hK _ ?_
  clear hK K
  refine wpGz_pure1 (fun _ _ _ h h1 w' hw hs => h1 w' hw (h _ hs)) rfl (fun w6 hE6 hS6 => ?_) (fun K hK => ?_)
  · simp only [opAt, runsAt]
    go_simp
    all_goals (first | exact ⟨ext_refl _, rfl⟩ | exact ext_refl _ | rfl | trivial)
  go_simp
  refine hK _ ?_
  clear hK K
  refine wpGz_pure1 (fun _ _ _ h h1 w' hw hs => h1 w' hw (h _ hs)) rfl (fun w6 hE6 hS6 => ?_) (fun K hK => ?_)
  · simp only [opAt, runsAt]
    go_simp
    all_goals (first | exact ⟨ext_refl _, rfl⟩ | exact ext_refl _ | rfl | trivial)
  go_simp
  refine hK _ ?_
  clear hK K
  refine wpGz_pure1 (fun _ _ _ h h1 w' hw hs => h1 w' hw (h _ hs)) rfl (fun w6 hE6 hS6 => ?_) (fun K hK => ?_)
  · simp only [opAt, runsAt]
    go_simp
    all_goals (first | exact ⟨ext_refl _, rfl⟩ | exact ext_refl _ | rfl | trivial)
  go_simp
  refine hK _ ?_
  clear hK K
  refine wpGz_step1 rfl (fun v a b hE h => tD_ext h hE) ⟨undef, trivial⟩ (fun w6 hE6 hS6 => ?_) (fun v22 _ K hK => ?_)
  · simp only [opAt, runsAt]
    go_simp
    refine (runionT _ _ w6 (tD_ext TD0_46.out hE6) (tD_ext TD1_50.out hE6)  TB0.out TB1.out (by omega) (by omega) (by omega) (by omega)).mono ?_
    rintro e w7 ⟨v', rfl, h3, h4⟩
    exact ⟨_, rfl, h4, h3⟩
  go_simp
  refine hK _ ?_
  clear hK K
  refine wpGz_pure1 (fun _ _ _ h h1 w' hw hs => h1 w' hw (h _ hs)) rfl (fun w6 hE6 hS6 => ?_) (fun K hK => ?_)
  · have hdoc := fun (v : Value) (w : World) (h : TD w v (setS (U ++ V)) (M ++ N)) => (show TD w v JV JU by rw [DJV.out, DJU.out]; exact h)
    simp only [opAt, runsAt]
    go_simp
    refine (isT _ _ w6 ⟨_, _, rfl, own_low (own_ext OU_56.out hE6) (Nat.zero_le _)⟩ (hdoc _ _ (hS6 _ (List.mem_cons_self ..) (by kernel_rfl))) TBOU.out (by omega) (by omega)).mono ?_
    rintro e w7 ⟨rfl, h4⟩
    first | exact ⟨rfl, h4⟩ | exact ⟨_, rfl, h4, rfl⟩
  go_simp
  refine hK _ ?_
  clear hK K
  refine wpGz_pure1 (fun _ _ _ h h1 w' hw hs => h1 w' hw (h _ hs)) rfl (fun w6 hE6 hS6 => ?_) (fun K hK => ?_)
  · simp only [opAt, runsAt]
    go_simp
    all_goals (first | exact ⟨ext_refl _, rfl⟩ | exact ext_refl _ | rfl | trivial)
  go_simp
  refine hK _ ?_
  clear hK K
  refine wpGz_pure1 (fun _ _ _ h h1 w' hw hs => h1 w' hw (h _ hs)) rfl (fun w6 hE6 hS6 => ?_) (fun K hK => ?_)
  · simp only [opAt, runsAt]
    go_simp
    all_goals (first | exact ⟨ext_refl _, rfl⟩ | exact ext_refl _ | rfl | trivial)
  go_simp
  refine hK _ ?_
  clear hK K
  refine wpGz_pure1 (fun _ _ _ h h1 w' hw hs => h1 w' hw (h _ hs)) rfl (fun w6 hE6 hS6 => ?_) (fun K hK => ?_)
  · simp only [opAt, runsAt]
    go_simp
    all_goals (first | exact ⟨ext_refl _, rfl⟩ | exact ext_refl _ | rfl | trivial)
  go_simp
  refine hK _ ?_
  clear hK K
  refine wpGz_pure1 (fun _ _ _ h h1 w' hw hs => h1 w' hw (h _ hs)) rfl (fun w6 hE6 hS6 => ?_) (fun K hK => ?_)
  · simp only [opAt, runsAt]
    go_simp
    all_goals (first | exact ⟨ext_refl _, rfl⟩ | exact ext_refl _ | rfl | trivial)
  go_simp
  refine hK _ ?_
  clear hK K
  refine wpGz_pure1 (fun _ _ _ h h1 w' hw hs => h1 w' hw (h _ hs)) rfl (fun w6 hE6 hS6 => ?_) (fun K hK => ?_)
  · simp only [opAt, runsAt]
    go_simp
    all_goals (first | exact ⟨ext_refl _, rfl⟩ | exact ext_refl _ | rfl | trivial)
  go_simp
  refine hK _ ?_
  clear hK K
  refine wpGz_pure1 (fun _ _ _ h h1 w' hw hs => h1 w' hw (h _ hs)) rfl (fun w6 hE6 hS6 => ?_) (fun K hK => ?_)
  · simp only [opAt, runsAt]
    go_simp
    all_goals (first | exact ⟨ext_refl _, rfl⟩ | exact ext_refl _ | rfl | trivial)
  go_simp
  refine hK _ ?_
  clear hK K
  refine wpGz_step1 rfl tabF_ext ⟨undef, trivial⟩ (fun w6 hE6 hS6 => ?_) (fun v30 _ K hK => ?_)
  · simp only [opAt, runsAt]
    go_simp
    refine (joinT _ _ w6 ⟨_, _, rfl, own_low (own_ext OA1_49.out hE6) (Nat.zero_le _)⟩ ⟨_, _, rfl, own_low (own_ext OA0_45.out hE6) (Nat.zero_le _)⟩  TB1.out TB0.out (by omega) (by omega) (by omega) (by omega) (by omega)).mono ?_
    rintro e w7 ⟨v', rfl, h3, h4⟩
    exact ⟨_, rfl, h4, by obtain ⟨x1, x2, x3, x4⟩ := h3; exact ⟨x1, x2, x3, own_low x4 (Nat.zero_le _)⟩⟩
  go_simp
  refine hK _ ?_
  clear hK K
  refine wpGz_pure1 (fun _ _ _ h h1 w' hw hs => h1 w' hw (h _ hs)) rfl (fun w6 hE6 hS6 => ?_) (fun K hK => ?_)
  · simp only [opAt, runsAt]
    go_simp
    have hs := sameT _ _ w6 ⟨_, _, rfl, own_low (own_ext OJ_55.out hE6) (Nat.zero_le _)⟩ (hS6 _ (List.mem_cons_self ..) (by kernel_rfl)) (tabP_ext HTP.out (ext_trans HE_42.out hE6)) TBOJ.out (tb_join TB1.out TB0.out) (by omega) (by omega) (by omega) (by omega)
    rw [(show sameB JV (setS (V ++ U)) (rowsD JV JR) (rowsD (setS (V ++ U)) (joinQ N M)) = true by rw [DJV.out, DJR.out]; exact join_turn TB0.out.q TB1.out.q)] at hs
    refine hs.mono ?_
    rintro e w7 ⟨rfl, h4⟩
    first | exact ⟨rfl, h4⟩ | exact ⟨_, rfl, h4, rfl⟩
  go_simp
  refine hK _ ?_
  clear hK K
  refine wpGz_pure1 (fun _ _ _ h h1 w' hw hs => h1 w' hw (h _ hs)) rfl (fun w6 hE6 hS6 => ?_) (fun K hK => ?_)
  · simp only [opAt, runsAt]
    go_simp
    all_goals (first | exact ⟨ext_refl _, rfl⟩ | exact ext_refl _ | rfl | trivial)
  go_simp
  refine hK _ ?_
  clear hK K
  refine wpGz_pure1 (fun _ _ _ h h1 w' hw hs => h1 w' hw (h _ hs)) rfl (fun w6 hE6 hS6 => ?_) (fun K hK => ?_)
  · simp only [opAt, runsAt]
    go_simp
    all_goals (first | exact ⟨ext_refl _, rfl⟩ | exact ext_refl _ | rfl | trivial)
  go_simp
  refine hK _ ?_
  clear hK K
  refine wpGz_pure1 (fun _ _ _ h h1 w' hw hs => h1 w' hw (h _ hs)) rfl (fun w6 hE6 hS6 => ?_) (fun K hK => ?_)
  · simp only [opAt, runsAt]
    go_simp
    all_goals (first | exact ⟨ext_refl _, rfl⟩ | exact ext_refl _ | rfl | trivial)
  go_simp
  refine hK _ ?_
  clear hK K
  refine wpGz_pure1 (fun _ _ _ h h1 w' hw hs => h1 w' hw (h _ hs)) rfl (fun w6 hE6 hS6 => ?_) (fun K hK => ?_)
  · simp only [opAt, runsAt]
    go_simp
    all_goals (first | exact ⟨ext_refl _, rfl⟩ | exact ext_refl _ | rfl | trivial)
  go_simp
  refine hK _ ?_
  clear hK K
  refine wpGz_pure1 (fun _ _ _ h h1 w' hw hs => h1 w' hw (h _ hs)) rfl (fun w6 hE6 hS6 => ?_) (fun K hK => ?_)
  · simp only [opAt, runsAt]
    go_simp
    all_goals (first | exact ⟨ext_refl _, rfl⟩ | exact ext_refl _ | rfl | trivial)
  go_simp
  refine hK _ ?_
  clear hK K
  refine wpGz_pure1 (fun _ _ _ h h1 w' hw hs => h1 w' hw (h _ hs)) rfl (fun w6 hE6 hS6 => ?_) (fun K hK => ?_)
  · simp only [opAt, runsAt]
    go_simp
    all_goals (first | exact ⟨ext_refl _, rfl⟩ | exact ext_refl _ | rfl | trivial)
  go_simp
  refine hK _ ?_
  clear hK K
  refine wpGz_step1 rfl tabF_ext ⟨undef, trivial⟩ (fun w6 hE6 hS6 => ?_) (fun v38 _ K hK => ?_)
  · simp only [opAt, runsAt]
    go_simp
    refine (unionT _ _ w6 ⟨_, _, rfl, own_low (own_ext OA1_49.out hE6) (Nat.zero_le _)⟩ ⟨_, _, rfl, own_low (own_ext OA0_45.out hE6) (Nat.zero_le _)⟩  TB1.out TB0.out (by omega) (by omega) (by omega) (by omega)).mono ?_
    rintro e w7 ⟨v', rfl, h3, h4⟩
    exact ⟨_, rfl, h4, by obtain ⟨x1, x2, x3, x4⟩ := h3; exact ⟨x1, x2, x3, own_low x4 (Nat.zero_le _)⟩⟩
  go_simp
  refine hK _ ?_
  clear hK K
  refine wpGz_pure1 (fun _ _ _ h h1 w' hw hs => h1 w' hw (h _ hs)) rfl (fun w6 hE6 hS6 => ?_) (fun K hK => ?_)
  · simp only [opAt, runsAt]
    go_simp
    have hs := sameT _ _ w6 ⟨_, _, rfl, own_low (own_ext OU_56.out hE6) (Nat.zero_le _)⟩ (hS6 _ (List.mem_cons_self ..) (by kernel_rfl)) (tabP_ext HTP.out (ext_trans HE_42.out hE6)) TBOU.out (tb_both TB1.out TB0.out) (by omega) (by omega) (by omega) (by omega)
    rw [(show sameB JV (setS (V ++ U)) (rowsD JV JU) (rowsD (setS (V ++ U)) (N ++ M)) = true by rw [DJV.out, DJU.out]; exact union_turn U V M N)] at hs
    refine hs.mono ?_
    rintro e w7 ⟨rfl, h4⟩
    first | exact ⟨rfl, h4⟩ | exact ⟨_, rfl, h4, rfl⟩
  go_simp
  refine hK _ ?_
  clear hK K
  refine wpGz_pure1 (fun _ _ _ h h1 w' hw hs => h1 w' hw (h _ hs)) rfl (fun w6 hE6 hS6 => ?_) (fun K hK => ?_)
  · simp only [opAt, runsAt]
    go_simp
    all_goals (first | exact ⟨ext_refl _, rfl⟩ | exact ext_refl _ | rfl | trivial)
  go_simp
  refine hK _ ?_
  clear hK K
  refine wpGz_pure1 (fun _ _ _ h h1 w' hw hs => h1 w' hw (h _ hs)) rfl (fun w6 hE6 hS6 => ?_) (fun K hK => ?_)
  · simp only [opAt, runsAt]
    go_simp
    all_goals (first | exact ⟨ext_refl _, rfl⟩ | exact ext_refl _ | rfl | trivial)
  go_simp
  refine hK _ ?_
  clear hK K
  refine wpGz_nil (fun w6 hE6 hS6 => ?_)
  clear hS6 uCA00 uCA01 uCM00 uCM01 uCA10 uCA11 uCM10 uCM11 uCJ0 uCJ1 uCU0 uCU1
  obtain ⟨w10, hw⟩ : ∃ w, w = w6 := ⟨_, rfl⟩
  subst hw
  have HE_57 := Lib.hid (ext_trans HE_42.out hE6)
  clear HE_42
  have X0_58 := Lib.hid ((ext_block hE6 (block_lt X0_43.out)).trans X0_43.out)
  clear X0_43
  have X1_59 := Lib.hid ((ext_block hE6 (block_lt X1_44.out)).trans X1_44.out)
  clear X1_44
  have OA0_60 := Lib.hid (own_ext OA0_45.out hE6)
  clear OA0_45
  have TD0_61 := Lib.hid (tD_ext TD0_46.out hE6)
  clear TD0_46
  have CA0_62 := Lib.hid ((ext_block hE6 (block_lt CA0_47.out)).trans CA0_47.out)
  clear CA0_47
  have CM0_63 := Lib.hid ((ext_block hE6 (block_lt CM0_48.out)).trans CM0_48.out)
  clear CM0_48
  have OA1_64 := Lib.hid (own_ext OA1_49.out hE6)
  clear OA1_49
  have TD1_65 := Lib.hid (tD_ext TD1_50.out hE6)
  clear TD1_50
  have CA1_66 := Lib.hid ((ext_block hE6 (block_lt CA1_51.out)).trans CA1_51.out)
  clear CA1_51
  have CM1_67 := Lib.hid ((ext_block hE6 (block_lt CM1_52.out)).trans CM1_52.out)
  clear CM1_52
  have CJ_68 := Lib.hid ((ext_block hE6 (block_lt CJ_53.out)).trans CJ_53.out)
  clear CJ_53
  have CU_69 := Lib.hid ((ext_block hE6 (block_lt CU_54.out)).trans CU_54.out)
  clear CU_54
  have OJ_70 := Lib.hid (own_ext OJ_55.out hE6)
  clear OJ_55
  have OU_71 := Lib.hid (own_ext OU_56.out hE6)
  clear OU_56
  have HEB_72 := Lib.hid (ext_trans HEB.out hE6)
  clear HEB
  clear hE6
  refine wpSeq_of_list [] [] _ _ rfl ?_
  refine wpList_nil ?_
  have qCJ0 : w10.cell? ⟨g6, 0, none⟩ = some (.slice A2 JV.length c2) := block_cell CJ_68.out 0
  have qCJ1 : w10.cell? ⟨g6, 1, none⟩ = some (.slice B2 JR.length d2) := block_cell CJ_68.out 1
  have lCJ := block_lt CJ_68.out
  go_wp2
  clear qCJ0 qCJ1 lCJ
  obtain ⟨hj1, slj, hj2, hj3, hj4⟩ := OJ_70.out
  have HJ2 := Lib.hid hj2
  rw [rowsD_len] at hj3
  have HJ3 := Lib.hid hj3
  have OWN := Lib.hid (show ∀ (i : Nat) (s : Sl), slj[i]? = some s → ∀ g, (slV s).ownBlock = some g → H0 ≤ g ∧ ∃ cur, w10.heap[g]? = some (.cells cur 3 (0, 0)) from fun i s hs g hg => by
    obtain ⟨x, hx⟩ : ∃ x, (rowsD JV JR)[i]? = some x := ⟨_, List.getElem?_eq_getElem (by rw [rowsD_len, ← hj3]; exact (List.getElem?_eq_some_iff.1 hs).1)⟩
    have h := hj4 i s x hs hx
    exact ⟨h.2 g hg, (rowE_block h.1 hg).2⟩)
  have ALL := Lib.hid (show ∀ (i : Nat) (s : Sl), slj[i]? = some s → ∃ L', rowE elI w10 (slV s) L' ∧ L'.length ≤ 100 from fun i s hs => by
    obtain ⟨x, hx⟩ : ∃ x, (rowsD JV JR)[i]? = some x := ⟨_, List.getElem?_eq_getElem (by rw [rowsD_len, ← hj3]; exact (List.getElem?_eq_some_iff.1 hs).1)⟩
    have h := hj4 i s x hs hx
    have hl := rowsD_mem x (List.mem_of_getElem? hx)
    have := TBOJ.out.vars
    exact ⟨x, h.1, by omega⟩)
  have hjr : JR.length ≤ 64 := TBOJ.out.rows
  clear hj1 hj2 hj3 hj4
  go_loopw [88] (fun x wr => ∃ j : Nat, j ≤ JR.length ∧ x = .int .i64 j ∧ Upd (fun b => H0 ≤ b ∧ ∃ cur, w10.heap[b]? = some (.cells cur 3 (0, 0))) w10 wr ∧ ∀ (i : Nat) (s : Sl), slj[i]? = some s → ∃ L', rowE elI wr (slV s) L' ∧ L'.length ≤ 100) (fun x _ => JR.length - (intOf x).toNat)
  case atStart => exact ⟨0, Nat.zero_le _, rfl, upd_refl, ALL.out⟩
  case round =>
    rename World => wo
    obtain ⟨j, hj, rfl, hU, hA⟩ := hrel
    have HU := Lib.hid hU
    have HA := Lib.hid hA
    clear hU hA ALL
    by_cases hlt : j < JR.length
    · have hji : (j : Int) < (JR.length : Int) := by omega
      have hj0 : (0 : Int) ≤ (j : Int) := by omega
      obtain ⟨⟨sA, sn, sc⟩, hs⟩ : ∃ s, slj[j]? = some s := ⟨_, List.getElem?_eq_getElem (by rw [HJ3.out]; exact hlt)⟩
      obtain ⟨g, hg1, hg2⟩ := rowE_some HJ2.out.1 (fun e => by rw [e] at hs; simp at hs)
      subst hg1
      have hc := rowW_cell HJ2.out.1 hs
      have hgt : ¬ (H0 ≤ g ∧ ∃ cur, w10.heap[g]? = some (.cells cur 3 (0, 0))) := fun h => by
        obtain ⟨_, cur, h1⟩ := h
        obtain ⟨_, cur', h2⟩ := rowE_block (g := g) HJ2.out.1 rfl
        rw [h1] at h2
        simp only [Option.some.injEq, Obj.cells.injEq] at h2
        exact absurd h2.2.1 (by decide)
      have q0 : wo.cell? ⟨g, j, none⟩ = some (.slice sA sn sc) := (upd_cell HU.out hg2 hgt j).trans hc
      have l0 : g < wo.heap.size := Nat.lt_of_lt_of_le hg2 HU.out.size
      have HS := Lib.hid hs
      clear hc hgt hg2
      go_wp2
      clear q0 l0
      go_loopw [94] (fun y wr => ∃ k : Nat, k ≤ sn ∧ y = .int .i64 k ∧ Upd (fun b => H0 ≤ b ∧ ∃ cur, w10.heap[b]? = some (.cells cur 3 (0, 0))) w10 wr ∧ ∀ (i : Nat) (s : Sl), slj[i]? = some s → ∃ L', rowE elI wr (slV s) L' ∧ L'.length ≤ 100) (fun y _ => sn - (intOf y).toNat)
      case atStart => exact ⟨0, Nat.zero_le _, rfl, HU.out, HA.out⟩
      case round =>
        rename World => wi
        obtain ⟨k, hk, rfl, hU, hA⟩ := hrel
        have HU2 := Lib.hid hU
        have HA2 := Lib.hid hA
        clear hU hA
        by_cases hkt : k < sn
        · have hki : (k : Int) < (sn : Int) := by omega
          have hk0 : (0 : Int) ≤ (k : Int) := by omega
          obtain ⟨L', hL, hl⟩ := HA2.out j _ hs
          have hln : sn = L'.length := (rowE_cap hL).1
          have hsn : sn ≤ 100 := by omega
          obtain ⟨gs, hgs, hgl⟩ := rowE_some hL (fun e => by rw [e] at hln; simp at hln; omega)
          subst hgs
          obtain ⟨z, hz⟩ : ∃ z, L'[k]? = some z := ⟨_, List.getElem?_eq_getElem (by omega)⟩
          have q0 := rowI_cell hL hz
          obtain ⟨_, cur, hb⟩ := rowE_block (g := gs) hL rfl
          have q1 := block_frozen hb k
          have HB := Lib.hid hb
          have l0 := block_lt hb
          clear hL hl hln hz hb
          go_wp2
          go_roundw
          case rel => exact ⟨k + 1, by omega, by go_num, upd_trans HU2.out (upd_setCell (a := ⟨gs, k, none⟩) _) (fun b _ e => by
            have h := OWN.out j _ HS.out gs rfl
            rw [show b = gs from e]
            exact h), fun i s hs' => by
              obtain ⟨L', h1, h2⟩ := HA2.out i s hs'
              obtain ⟨L2, h3, h4⟩ := rowI_set (i := k) (k := 9) h1 HB.out
              exact ⟨L2, h3, by omega⟩⟩
          case measure => simp [intOf]; omega
        · obtain rfl : k = sn := by omega
          go_wp2
          go_roundw
          case rel => exact ⟨j + 1, by omega, by go_num, HU2.out, HA2.out⟩
          case measure => simp [intOf]; omega
    · obtain rfl : j = JR.length := by omega
      have HE8 := ext_upd HEB_72.out HU.out (fun b hb => by have := hb.1; have := HH0.out; omega)
      clear hlt hj HU HA
      have OA0_73 := Lib.hid (own_ext KOA0.out HE8)
      clear KOA0
      have OA1_74 := Lib.hid (own_ext KOA1.out HE8)
      clear KOA1
      have TD0_75 := Lib.hid (tD_ext KTD0.out HE8)
      clear KTD0
      have TD1_76 := Lib.hid (tD_ext KTD1.out HE8)
      clear KTD1
      have CA0_77 := Lib.hid ((ext_block HE8 (block_lt KCA0.out)).trans KCA0.out)
      clear KCA0
      have CA1_78 := Lib.hid ((ext_block HE8 (block_lt KCA1.out)).trans KCA1.out)
      clear KCA1
      have CM0_79 := Lib.hid ((ext_block HE8 (block_lt KCM0.out)).trans KCM0.out)
      clear KCM0
      have CM1_80 := Lib.hid ((ext_block HE8 (block_lt KCM1.out)).trans KCM1.out)
      clear KCM1
      have HE_81 := Lib.hid (ext_trans KHE.out HE8)
      clear KHE
      clear HE8
      go_wp2
      have qCA00 : wo.cell? ⟨ca0, 0, none⟩ = some (.slice P0 U.length i0) := block_cell CA0_77.out 0
      have qCA01 : wo.cell? ⟨ca0, 1, none⟩ = some (.slice Q0 M.length j0) := block_cell CA0_77.out 1
      have lCA0 := block_lt CA0_77.out
      have qCM00 : wo.cell? ⟨cm0, 0, none⟩ = some (.slice D0 U.length k0) := block_cell CM0_79.out 0
      have qCM01 : wo.cell? ⟨cm0, 1, none⟩ = some (.slice G0 M.length o0) := block_cell CM0_79.out 1
      have lCM0 := block_lt CM0_79.out
      have qCA10 : wo.cell? ⟨ca1, 0, none⟩ = some (.slice P1 V.length i1) := block_cell CA1_78.out 0
      have qCA11 : wo.cell? ⟨ca1, 1, none⟩ = some (.slice Q1 N.length j1) := block_cell CA1_78.out 1
      have lCA1 := block_lt CA1_78.out
      have qCM10 : wo.cell? ⟨cm1, 0, none⟩ = some (.slice D1 V.length k1) := block_cell CM1_80.out 0
      have qCM11 : wo.cell? ⟨cm1, 1, none⟩ = some (.slice G1 N.length o1) := block_cell CM1_80.out 1
      have lCM1 := block_lt CM1_80.out
      have hgc := cell_grown
      have uCA00 : ∀ w', Ext wo w' → w'.cell? ⟨ca0, 0, none⟩ = some (.slice P0 U.length i0) := fun w' hE => (ext_cell hE _ _ lCA0).trans qCA00
      have uCA01 : ∀ w', Ext wo w' → w'.cell? ⟨ca0, 1, none⟩ = some (.slice Q0 M.length j0) := fun w' hE => (ext_cell hE _ _ lCA0).trans qCA01
      have uCM00 : ∀ w', Ext wo w' → w'.cell? ⟨cm0, 0, none⟩ = some (.slice D0 U.length k0) := fun w' hE => (ext_cell hE _ _ lCM0).trans qCM00
      have uCM01 : ∀ w', Ext wo w' → w'.cell? ⟨cm0, 1, none⟩ = some (.slice G0 M.length o0) := fun w' hE => (ext_cell hE _ _ lCM0).trans qCM01
      have uCA10 : ∀ w', Ext wo w' → w'.cell? ⟨ca1, 0, none⟩ = some (.slice P1 V.length i1) := fun w' hE => (ext_cell hE _ _ lCA1).trans qCA10
      have uCA11 : ∀ w', Ext wo w' → w'.cell? ⟨ca1, 1, none⟩ = some (.slice Q1 N.length j1) := fun w' hE => (ext_cell hE _ _ lCA1).trans qCA11
      have uCM10 : ∀ w', Ext wo w' → w'.cell? ⟨cm1, 0, none⟩ = some (.slice D1 V.length k1) := fun w' hE => (ext_cell hE _ _ lCM1).trans qCM10
      have uCM11 : ∀ w', Ext wo w' → w'.cell? ⟨cm1, 1, none⟩ = some (.slice G1 N.length o1) := fun w' hE => (ext_cell hE _ _ lCM1).trans qCM11
      refine wp_region_each [] [0, 1] [(2, false, (fun v => v = .bool true), fun _ _ => True), (3, false, (fun v => v = .bool true), fun _ _ => True), (4, false, (fun v => v = (.agg #[.slice P1 V.length i1, .slice Q1 N.length j1])), fun _ _ => True), (5, false, (fun v => v = (.agg #[.slice D1 V.length k1, .slice G1 N.length o1])), fun _ _ => True), (6, false, (fun v => v = .bool true), fun _ _ => True), (7, false, (fun v => v = .bool true), fun _ _ => True), (8, false, (fun v => v = .bool true), fun _ _ => True), (9, false, (fun v => v = (.agg #[.slice P0 U.length i0, .slice Q0 M.length j0])), fun _ _ => True), (10, false, (fun _ => True), TabQ 0 [] [[]]), (11, false, (fun _ => True), TabQ 0 U M), (12, false, (fun v => v = (.agg #[.slice D0 U.length k0, .slice G0 M.length o0])), fun _ _ => True), (13, false, (fun v => v = .bool true), fun _ _ => True), (14, false, (fun v => v = .bool true), fun _ _ => True), (15, false, (fun v => v = .bool true), fun _ _ => True), (16, false, (fun _ => True), TabQ 0 [] [[]]), (17, false, (fun v => v = (.agg #[.slice P0 U.length i0, .slice Q0 M.length j0])), fun _ _ => True), (18, false, (fun _ => True), TabQ 0 U M), (19, false, (fun v => v = (.agg #[.slice D0 U.length k0, .slice G0 M.length o0])), fun _ _ => True), (20, false, (fun v => v = .bool true), fun _ _ => True), (21, false, (fun v => v = .bool true), fun _ _ => True)] [22] [2, 3, 4, 5, 6, 7, 8, 9, 10, 11, 12, 13, 14, 15, 16, 17, 18, 19, 20, 21] rfl (by kernel_rfl) (by kernel_rfl) (fun _ _ d _ _ h => by cases d <;> exact h) ?_
      refine wpPre_nil ?_
      repeat (refine wpLoose_step rfl (fun K hK => ?_); (try simp only [Oper.quietAt, Oper.quietUpon]); go_simp; (refine hK _ ?_; clear hK K))
      refine wpLoose_nil ?_
      clear qCA00 qCA01 lCA0 qCM00 qCM01 lCM0 qCA10 qCA11 lCA1 qCM10 qCM11 lCM1 hgc
      refine wpGz_pure1 (fun _ _ _ h h1 w' hw hs => h1 w' hw (h _ hs)) rfl (fun w6 hE6 hS6 => ?_) (fun K hK => ?_)
      · simp only [opAt, runsAt]
        go_simp
        refine (isT _ _ w6 ⟨_, _, rfl, own_low (own_ext OA0_73.out hE6) (Nat.zero_le _)⟩ (tD_ext TD0_75.out hE6) TB0.out (by omega) (by omega)).mono ?_
        rintro e w7 ⟨rfl, h4⟩
        first | exact ⟨rfl, h4⟩ | exact ⟨_, rfl, h4, rfl⟩
      go_simp
      refine hK _ ?_
      clear hK K
      refine wpGz_pure1 (fun _ _ _ h h1 w' hw hs => h1 w' hw (h _ hs)) rfl (fun w6 hE6 hS6 => ?_) (fun K hK => ?_)
      · simp only [opAt, runsAt]
        go_simp
        all_goals (first | exact ⟨ext_refl _, rfl⟩ | exact ext_refl _ | rfl | trivial)
      go_simp
      refine hK _ ?_
      clear hK K
      refine wpGz_pure1 (fun _ _ _ h h1 w' hw hs => h1 w' hw (h _ hs)) rfl (fun w6 hE6 hS6 => ?_) (fun K hK => ?_)
      · simp only [opAt, runsAt]
        go_simp
        all_goals (first | exact ⟨ext_refl _, rfl⟩ | exact ext_refl _ | rfl | trivial)
      go_simp
      refine hK _ ?_
      clear hK K
      refine wpGz_pure1 (fun _ _ _ h h1 w' hw hs => h1 w' hw (h _ hs)) rfl (fun w6 hE6 hS6 => ?_) (fun K hK => ?_)
      · simp only [opAt, runsAt]
        go_simp
        all_goals (first | exact ⟨ext_refl _, rfl⟩ | exact ext_refl _ | rfl | trivial)
      go_simp
      refine hK _ ?_
      clear hK K
      refine wpGz_pure1 (fun _ _ _ h h1 w' hw hs => h1 w' hw (h _ hs)) rfl (fun w6 hE6 hS6 => ?_) (fun K hK => ?_)
      · simp only [opAt, runsAt]
        go_simp
        refine (isT _ _ w6 ⟨_, _, rfl, own_low (own_ext OA1_74.out hE6) (Nat.zero_le _)⟩ (tD_ext TD1_76.out hE6) TB1.out (by omega) (by omega)).mono ?_
        rintro e w7 ⟨rfl, h4⟩
        first | exact ⟨rfl, h4⟩ | exact ⟨_, rfl, h4, rfl⟩
      go_simp
      refine hK _ ?_
      clear hK K
      refine wpGz_pure1 (fun _ _ _ h h1 w' hw hs => h1 w' hw (h _ hs)) rfl (fun w6 hE6 hS6 => ?_) (fun K hK => ?_)
      · simp only [opAt, runsAt]
        go_simp
        all_goals (first | exact ⟨ext_refl _, rfl⟩ | exact ext_refl _ | rfl | trivial)
      go_simp
      refine hK _ ?_
      clear hK K
      refine wpGz_pure1 (fun _ _ _ h h1 w' hw hs => h1 w' hw (h _ hs)) rfl (fun w6 hE6 hS6 => ?_) (fun K hK => ?_)
      · simp only [opAt, runsAt]
        go_simp
        all_goals (first | exact ⟨ext_refl _, rfl⟩ | exact ext_refl _ | rfl | trivial)
      go_simp
      refine hK _ ?_
      clear hK K
      refine wpGz_pure1 (fun _ _ _ h h1 w' hw hs => h1 w' hw (h _ hs)) rfl (fun w6 hE6 hS6 => ?_) (fun K hK => ?_)
      · simp only [opAt, runsAt]
        go_simp
        all_goals (first | exact ⟨ext_refl _, rfl⟩ | exact ext_refl _ | rfl | trivial)
      go_simp
      refine hK _ ?_
      clear hK K
      refine wpGz_step1 rfl tabF_ext ⟨undef, trivial⟩ (fun w6 hE6 hS6 => ?_) (fun v10 _ K hK => ?_)
      · simp only [opAt, runsAt]
        go_simp
        refine (unitT  w6    ).mono ?_
        rintro e w7 ⟨v', rfl, h3, h4⟩
        exact ⟨_, rfl, h4, by obtain ⟨x1, x2, x3, x4⟩ := h3; exact ⟨x1, x2, x3, own_low x4 (Nat.zero_le _)⟩⟩
      go_simp
      refine hK _ ?_
      clear hK K
      refine wpGz_step1 rfl tabF_ext ⟨undef, trivial⟩ (fun w6 hE6 hS6 => ?_) (fun v11 _ K hK => ?_)
      · simp only [opAt, runsAt]
        go_simp
        refine (joinUR _ _ w6 ⟨_, _, rfl, own_low (own_ext OA0_73.out hE6) (Nat.zero_le _)⟩ (hS6 _ (List.mem_cons_self ..) (by kernel_rfl))  TB0.out (by omega) (by omega)).mono ?_
        rintro e w7 ⟨v', rfl, h3, h4⟩
        exact ⟨_, rfl, h4, by obtain ⟨x1, x2, x3, x4⟩ := h3; exact ⟨x1, x2, x3, own_low x4 (Nat.zero_le _)⟩⟩
      go_simp
      refine hK _ ?_
      clear hK K
      refine wpGz_pure1 (fun _ _ _ h h1 w' hw hs => h1 w' hw (h _ hs)) rfl (fun w6 hE6 hS6 => ?_) (fun K hK => ?_)
      · simp only [opAt, runsAt]
        go_simp
        all_goals (first | exact ⟨ext_refl _, rfl⟩ | exact ext_refl _ | rfl | trivial)
      go_simp
      refine hK _ ?_
      clear hK K
      refine wpGz_pure1 (fun _ _ _ h h1 w' hw hs => h1 w' hw (h _ hs)) rfl (fun w6 hE6 hS6 => ?_) (fun K hK => ?_)
      · simp only [opAt, runsAt]
        go_simp
        refine (isT _ _ w6 (hS6 _ (List.mem_cons_self ..) (by kernel_rfl)) (tD_ext TD0_75.out hE6) TB0.out (by omega) (by omega)).mono ?_
        rintro e w7 ⟨rfl, h4⟩
        first | exact ⟨rfl, h4⟩ | exact ⟨_, rfl, h4, rfl⟩
      go_simp
      refine hK _ ?_
      clear hK K
      refine wpGz_pure1 (fun _ _ _ h h1 w' hw hs => h1 w' hw (h _ hs)) rfl (fun w6 hE6 hS6 => ?_) (fun K hK => ?_)
      · simp only [opAt, runsAt]
        go_simp
        all_goals (first | exact ⟨ext_refl _, rfl⟩ | exact ext_refl _ | rfl | trivial)
      go_simp
      refine hK _ ?_
      clear hK K
      refine wpGz_pure1 (fun _ _ _ h h1 w' hw hs => h1 w' hw (h _ hs)) rfl (fun w6 hE6 hS6 => ?_) (fun K hK => ?_)
      · simp only [opAt, runsAt]
        go_simp
        all_goals (first | exact ⟨ext_refl _, rfl⟩ | exact ext_refl _ | rfl | trivial)
      go_simp
      refine hK _ ?_
      clear hK K
      refine wpGz_step1 rfl tabF_ext ⟨undef, trivial⟩ (fun w6 hE6 hS6 => ?_) (fun v16 _ K hK => ?_)
      · simp only [opAt, runsAt]
        go_simp
        refine (unitT  w6    ).mono ?_
        rintro e w7 ⟨v', rfl, h3, h4⟩
        exact ⟨_, rfl, h4, by obtain ⟨x1, x2, x3, x4⟩ := h3; exact ⟨x1, x2, x3, own_low x4 (Nat.zero_le _)⟩⟩
      go_simp
      refine hK _ ?_
      clear hK K
      refine wpGz_pure1 (fun _ _ _ h h1 w' hw hs => h1 w' hw (h _ hs)) rfl (fun w6 hE6 hS6 => ?_) (fun K hK => ?_)
      · simp only [opAt, runsAt]
        go_simp
        all_goals (first | exact ⟨ext_refl _, rfl⟩ | exact ext_refl _ | rfl | trivial)
      go_simp
      refine hK _ ?_
      clear hK K
      refine wpGz_step1 rfl tabF_ext ⟨undef, trivial⟩ (fun w6 hE6 hS6 => ?_) (fun v18 _ K hK => ?_)
      · simp only [opAt, runsAt]
        go_simp
        refine (joinUL _ _ w6 ⟨_, _, rfl, own_low (own_ext OA0_73.out hE6) (Nat.zero_le _)⟩ (hS6 _ (List.mem_cons_self ..) (by kernel_rfl))  TB0.out (by omega) (by omega)).mono ?_
        rintro e w7 ⟨v', rfl, h3, h4⟩
        exact ⟨_, rfl, h4, by obtain ⟨x1, x2, x3, x4⟩ := h3; exact ⟨x1, x2, x3, own_low x4 (Nat.zero_le _)⟩⟩
      go_simp
      refine hK _ ?_
      clear hK K
      refine wpGz_pure1 (fun _ _ _ h h1 w' hw hs => h1 w' hw (h _ hs)) rfl (fun w6 hE6 hS6 => ?_) (fun K hK => ?_)
      · simp only [opAt, runsAt]
        go_simp
        all_goals (first | exact ⟨ext_refl _, rfl⟩ | exact ext_refl _ | rfl | trivial)
      go_simp
      refine hK _ ?_
      clear hK K
      refine wpGz_pure1 (fun _ _ _ h h1 w' hw hs => h1 w' hw (h _ hs)) rfl (fun w6 hE6 hS6 => ?_) (fun K hK => ?_)
      · simp only [opAt, runsAt]
        go_simp
        refine (isT _ _ w6 (hS6 _ (List.mem_cons_self ..) (by kernel_rfl)) (tD_ext TD0_75.out hE6) TB0.out (by omega) (by omega)).mono ?_
        rintro e w7 ⟨rfl, h4⟩
        first | exact ⟨rfl, h4⟩ | exact ⟨_, rfl, h4, rfl⟩
      go_simp
      refine hK _ ?_
      clear hK K
      refine wpGz_pure1 (fun _ _ _ h h1 w' hw hs => h1 w' hw (h _ hs)) rfl (fun w6 hE6 hS6 => ?_) (fun K hK => ?_)
      · simp only [opAt, runsAt]
        go_simp
        all_goals (first | exact ⟨ext_refl _, rfl⟩ | exact ext_refl _ | rfl | trivial)
      go_simp
      refine hK _ ?_
      clear hK K
      refine wpGz_nil (fun w6 hE6 hS6 => ?_)
      clear hS6 uCA00 uCA01 uCM00 uCM01 uCA10 uCA11 uCM10 uCM11
      obtain ⟨w11, hw⟩ : ∃ w, w = w6 := ⟨_, rfl⟩
      subst hw
      have OA0_82 := Lib.hid (own_ext OA0_73.out hE6)
      clear OA0_73
      have OA1_83 := Lib.hid (own_ext OA1_74.out hE6)
      clear OA1_74
      have TD0_84 := Lib.hid (tD_ext TD0_75.out hE6)
      clear TD0_75
      have TD1_85 := Lib.hid (tD_ext TD1_76.out hE6)
      clear TD1_76
      have CA0_86 := Lib.hid ((ext_block hE6 (block_lt CA0_77.out)).trans CA0_77.out)
      clear CA0_77
      have CA1_87 := Lib.hid ((ext_block hE6 (block_lt CA1_78.out)).trans CA1_78.out)
      clear CA1_78
      have CM0_88 := Lib.hid ((ext_block hE6 (block_lt CM0_79.out)).trans CM0_79.out)
      clear CM0_79
      have CM1_89 := Lib.hid ((ext_block hE6 (block_lt CM1_80.out)).trans CM1_80.out)
      clear CM1_80
      have HE_90 := Lib.hid (ext_trans HE_81.out hE6)
      clear HE_81
      clear hE6
      refine wpSeq_of_list [22] [_] _ _ rfl ?_
      go_wp2
      refine bodyPost_ret (results_tmp rfl _ _ _) rfl ?_
      exact ⟨rfl, HE_90.out⟩
end Go.Proofs.YtniggdaakiofeaaDoor
