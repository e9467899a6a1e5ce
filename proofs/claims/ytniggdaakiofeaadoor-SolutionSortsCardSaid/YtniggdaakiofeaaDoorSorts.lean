/- SolutionSorts: sorted by numbers, rows are the same, as often, each one not behind the one that follows; sorted again nothing changes. Condition: the listed tables of Go's library start as its text lays them (tied by the card). -/
import Derived.Test.YtniggdaakiofeaaDoorSu
import Derived.Test.YtniggdaakiofeaaDoorYd
import Derived.Test.YtniggdaakiofeaaDoorCards
import Derived.ChangeOld
import Derived.Below
import Derived.OpenShut
import Derived.Stop.Joined
import Derived.Lib.SmallJoins
import Derived.Test.YtniggdaakiofeaaDoorEs
namespace Go.Proofs.YtniggdaakiofeaaDoor
open Go Go.RowKit Go.Sort
set_option maxHeartbeats 20000000

/- of this seat alone: 80 -/
theorem sortTS {n m H : Nat} (g : Nat) (eg : ∀ args w, (callFunc g args).run Tryd.prog w = .ok (.enter g args) w) (hg : CbO g) (tv : Value) {U : List ByteArray} {M : List (List VarN)} (w : World) (ht : TabQ H U M tv w) (a : Tb n m U M) (h1 : n ≤ 100) (h2 : m < 20) (S : List (List VarN)) (hS : S = sortQ U M) :
    Calls Tryd.prog 36 #[tv, .func (.func g) #[] #[]] w fun e w' => ∃ A c B d, e = .returned (.agg #[.slice A U.length c, .slice B S.length d]) ∧ Own w.heap.size w' (.slice A U.length c) (.slice B S.length d) U (rowsD U S) ∧ Ext w w' := by
  subst hS
  refine (sortTQ g eg hg tv w ht a h1 h2).mono ?_
  rintro e w' ⟨v', rfl, h, hE⟩
  obtain ⟨A, c, B, d, rfl, how⟩ := tabQ_form h
  exact ⟨A, c, B, d, rfl, how, hE⟩
theorem rsortTS {n m : Nat} (av : Value) {U : List ByteArray} {M : List (List VarN)} (w : World) (ha : TD w av U M) (a : Tb n m U M) (h1 : n ≤ 100) (h3 : m ≤ 300) (S : List (List VarN)) (hS : S = sortQ U M) :
    Calls Tryd.prog 37 #[av] w fun e w' => ∃ A c B d, e = .returned (.agg #[.slice A U.length c, .slice B S.length d]) ∧ TD w' (.agg #[.slice A U.length c, .slice B S.length d]) U S ∧ Ext w w' := by
  subst hS
  refine (rsortT av w ha a h1 h3).mono ?_
  rintro e w' ⟨v', rfl, h, hE⟩
  obtain ⟨A, c, B, d, rfl⟩ := tD_form h
  exact ⟨A, c, B, d, rfl, h, hE⟩
theorem sortTA {n m H : Nat} (tv : Value) {U : List ByteArray} {M S : List (List VarN)} (w : World) (ht : TabQ H U S tv w) (hS : S = sortQ U M) (a : Tb n m U S) (h1 : n ≤ 100) (h2 : m < 20) :
    Calls Tryd.prog 36 #[tv, .func (.func 38) #[] #[]] w fun e w' => ∃ v', e = .returned v' ∧ TabQ w.heap.size U S v' w' ∧ Ext w w' := by
  have h := sortTQ 38 egUp38 up38 tv w ht a h1 h2
  rw [show sortQ U S = S by rw [hS, sortQ_again]] at h
  exact h
set_option maxRecDepth 100000 in
theorem sorts_law (v0 : Value) (xs : List Nat) (rs : List (List Nat)) (w : World) (h0 : RawV w v0 xs rs) (l0 : xs.length ≤ maxLen) (m0 : rs.length ≤ maxLen) (n0 : ∀ r ∈ rs, r.length ≤ maxLen) (hT : TabP w) :
    Calls Tryd.prog 8 #[v0] w fun e w' => e = .returned (.bool true) ∧ Ext w w' := by
  have hml : maxLen ≤ 9223372036854775807 := by decide
  have F0 := Lib.hid (fun w' (hE : Ext w w') => few_any v0 xs rs w' (rawV_ext h0 hE) (Nat.le_trans l0 hml) (Nat.le_trans m0 hml) (fun r hr => Nat.le_trans (n0 r hr) hml))
  have HR0 := Lib.hid h0
  obtain ⟨a0, d0, rfl, p0, q0⟩ := h0
  obtain ⟨A0, c0, rfl⟩ := rdU_form p0
  obtain ⟨B0, e0, rfl⟩ := rdUU_form q0
  clear p0 q0 l0 m0 n0
  clear hml
  have HE_1 := Lib.hid (ext_refl w)
  have HTP := Lib.hid hT
  clear hT
  go_enter Tryd.func8, Tryd.ntmps8
  go_wp2_with fail
  refine (awake_any _).mono ?_
  rintro e w1 ⟨rfl, hE⟩
  obtain ⟨hE, g0⟩ := ext1 hE
  have HE_2 := Lib.hid (ext_trans HE_1.out hE)
  clear HE_1
  obtain ⟨bx0, hbx0⟩ : ∃ bx0, bx0 = w.heap.size := ⟨_, rfl⟩
  try rw [← hbx0]
  rw [← hbx0] at g0
  have X0_3 := Lib.hid (show w1.heap[bx0]? = some (.cells #[.slice A0 xs.length c0, .slice B0 rs.length e0] 25 (0, 0)) from g0)
  have Sbx0 := Lib.hid hbx0
  clear g0 hbx0
  clear hE
  have qX00 : w1.cell? ⟨bx0, 0, none⟩ = some (.slice A0 xs.length c0) := block_cell X0_3.out 0
  have qX01 : w1.cell? ⟨bx0, 1, none⟩ = some (.slice B0 rs.length e0) := block_cell X0_3.out 1
  have lX0 := block_lt X0_3.out
  go_wp2_with fail
  clear qX00 qX01 lX0
  refine (F0.out _ HE_2.out).mono ?_
  rintro e w2 ⟨rfl, hE⟩
  have HE_4 := Lib.hid (ext_trans HE_2.out hE)
  clear HE_2
  have X0_5 := Lib.hid ((ext_block hE (block_lt X0_3.out)).trans X0_3.out)
  clear X0_3
  clear hE
  obtain ⟨f0, hf0⟩ : ∃ f, f = fewB xs rs := ⟨_, rfl⟩
  rw [← hf0]
  have HF0 := Lib.hid hf0
  clear hf0
  cases f0
  · skip
    go_wp2_with fail
    refine (awake_any _).mono ?_
    rintro e w3 ⟨rfl, hE⟩
    have HE_6 := Lib.hid (ext_trans HE_4.out hE)
    clear HE_4
    have X0_7 := Lib.hid ((ext_block hE (block_lt X0_5.out)).trans X0_5.out)
    clear X0_5
    clear hE
    go_wp2
    refine bodyPost_ret (results_tmp rfl _ _ _) rfl ?_
    exact ⟨rfl, HE_6.out⟩
  obtain ⟨U, hU⟩ : ∃ U, U = setS (namesOf xs) := ⟨_, rfl⟩
  obtain ⟨M, hM⟩ : ∃ M, M = docT xs rs := ⟨_, rfl⟩
  have IT0 := Lib.hid (show IsT U M by rw [hU, hM]; exact isT_of HF0.out.symm)
  have DU := Lib.hid hU
  have DM := Lib.hid hM
  clear hU hM
  have qX00 : w2.cell? ⟨bx0, 0, none⟩ = some (.slice A0 xs.length c0) := block_cell X0_5.out 0
  have qX01 : w2.cell? ⟨bx0, 1, none⟩ = some (.slice B0 rs.length e0) := block_cell X0_5.out 1
  have lX0 := block_lt X0_5.out
  go_wp2_with fail
  clear qX00 qX01 lX0
  refine (build_spec _ xs rs U M _ DU.out DM.out (rawV_ext HR0.out HE_4.out) HF0.out.symm).mono ?_
  rintro e w4 ⟨P0, i0, Q0, j0, D0, k0, G0, o0, rfl, how, htd, hE⟩
  have HE_8 := Lib.hid (ext_trans HE_4.out hE)
  clear HE_4
  have X0_9 := Lib.hid ((ext_block hE (block_lt X0_5.out)).trans X0_5.out)
  clear X0_5
  clear hE
  have bu0 : U.length ≤ 5 := IT0.out.vars
  have br0 : M.length ≤ 8 := IT0.out.rows
  have OA0_10 := Lib.hid (how)
  have TD0_11 := Lib.hid (htd)
  clear how htd
  have TB0 := Lib.hid (tb_isT IT0.out DM.out)
  obtain ⟨S, hS⟩ : ∃ S, S = sortQ U M := ⟨_, rfl⟩
  have DS := Lib.hid hS
  have TBS := Lib.hid (show Tb 5 8 U S by rw [hS]; exact tb_sort TB0.out)
  clear hS
  go_wp2_with fail
  refine (sortTS _ egUp38 up38 _ _ ⟨_, _, rfl, own_ext OA0_10.out (ext_alloc (ext_alloc (ext_refl _) _) _)⟩ TB0.out (by omega) (by omega) S DS.out).mono ?_
  rintro e w5 ⟨AS, cS, BS, dS, rfl, how, hE⟩
  obtain ⟨hE, g0, g1⟩ := ext2 hE
  have HE_12 := Lib.hid (ext_trans HE_8.out hE)
  clear HE_8
  have X0_13 := Lib.hid ((ext_block hE (block_lt X0_9.out)).trans X0_9.out)
  clear X0_9
  have OA0_14 := Lib.hid (own_ext OA0_10.out hE)
  clear OA0_10
  have TD0_15 := Lib.hid (tD_ext TD0_11.out hE)
  clear TD0_11
  obtain ⟨ca0, hca0⟩ : ∃ ca0, ca0 = w4.heap.size := ⟨_, rfl⟩
  obtain ⟨cm0, hcm0⟩ : ∃ cm0, cm0 = w4.heap.size + 1 := ⟨_, rfl⟩
  try rw [← hcm0]
  rw [← hcm0] at g1
  try rw [← hca0]
  rw [← hca0] at g0
  have CA0_16 := Lib.hid (show w5.heap[ca0]? = some (.cells #[.slice P0 U.length i0, .slice Q0 M.length j0] 31 (0, 0)) from g0)
  have Sca0 := Lib.hid hca0
  clear g0 hca0
  have CM0_17 := Lib.hid (show w5.heap[cm0]? = some (.cells #[.slice D0 U.length k0, .slice G0 M.length o0] 34 (0, 0)) from g1)
  have Scm0 := Lib.hid hcm0
  clear g1 hcm0
  clear hE
  have OS_18 := Lib.hid (how)
  clear how
  have qCM00 : w5.cell? ⟨cm0, 0, none⟩ = some (.slice D0 U.length k0) := block_cell CM0_17.out 0
  have qCM01 : w5.cell? ⟨cm0, 1, none⟩ = some (.slice G0 M.length o0) := block_cell CM0_17.out 1
  have lCM0 := block_lt CM0_17.out
  go_wp2_with fail
  clear qCM00 qCM01 lCM0
  refine (rsortTS _ _ (tD_ext TD0_15.out (ext_alloc (ext_refl _) _)) TB0.out (by omega) (by omega) S DS.out).mono ?_
  rintro e w6 ⟨AW, cW, BW, dW, rfl, htd, hE⟩
  obtain ⟨hE, g0⟩ := ext1 hE
  have HE_19 := Lib.hid (ext_trans HE_12.out hE)
  clear HE_12
  have X0_20 := Lib.hid ((ext_block hE (block_lt X0_13.out)).trans X0_13.out)
  clear X0_13
  have OA0_21 := Lib.hid (own_ext OA0_14.out hE)
  clear OA0_14
  have TD0_22 := Lib.hid (tD_ext TD0_15.out hE)
  clear TD0_15
  have CA0_23 := Lib.hid ((ext_block hE (block_lt CA0_16.out)).trans CA0_16.out)
  clear CA0_16
  have CM0_24 := Lib.hid ((ext_block hE (block_lt CM0_17.out)).trans CM0_17.out)
  clear CM0_17
  have OS_25 := Lib.hid (own_ext OS_18.out hE)
  clear OS_18
  obtain ⟨cs, hcs⟩ : ∃ cs, cs = w5.heap.size := ⟨_, rfl⟩
  try rw [← hcs]
  rw [← hcs] at g0
  have CS_26 := Lib.hid (show w6.heap[cs]? = some (.cells #[.slice AS U.length cS, .slice BS S.length dS] 31 (0, 0)) from g0)
  have Scs := Lib.hid hcs
  clear g0 hcs
  clear hE
  have TDS_27 := Lib.hid (htd)
  clear htd
  go_wp2
  obtain ⟨W7, hW⟩ : ∃ W, W = w6.alloc (.cells #[.slice AW U.length cW, .slice BW S.length dW] 34) := ⟨_, rfl⟩
  have hE : Ext w6 W7 := by rw [hW]; exact ext_alloc (ext_refl _) _
  obtain ⟨cw, hcw⟩ : ∃ b, b = w6.heap.size := ⟨_, rfl⟩
  have g0 : W7.heap[cw]? = some (.cells #[.slice AW U.length cW, .slice BW S.length dW] 34 (0, 0)) := by rw [hW, hcw]; exact (heap_one w6 (.cells #[.slice AW U.length cW, .slice BW S.length dW] 34))
  have Scw := Lib.hid hcw
  try rw [← hW]
  try rw [← hcw]
  have HE_28 := Lib.hid (ext_trans HE_19.out hE)
  clear HE_19
  have X0_29 := Lib.hid ((ext_block hE (block_lt X0_20.out)).trans X0_20.out)
  clear X0_20
  have OA0_30 := Lib.hid (own_ext OA0_21.out hE)
  clear OA0_21
  have TD0_31 := Lib.hid (tD_ext TD0_22.out hE)
  clear TD0_22
  have CA0_32 := Lib.hid ((ext_block hE (block_lt CA0_23.out)).trans CA0_23.out)
  clear CA0_23
  have CM0_33 := Lib.hid ((ext_block hE (block_lt CM0_24.out)).trans CM0_24.out)
  clear CM0_24
  have OS_34 := Lib.hid (own_ext OS_25.out hE)
  clear OS_25
  have CS_35 := Lib.hid ((ext_block hE (block_lt CS_26.out)).trans CS_26.out)
  clear CS_26
  have TDS_36 := Lib.hid (tD_ext TDS_27.out hE)
  clear TDS_27
  have CW_37 := Lib.hid (show W7.heap[cw]? = some (.cells #[.slice AW U.length cW, .slice BW S.length dW] 34 (0, 0)) from g0)
  clear g0 hcw
  clear hE hW
  have TBOS := TBS
  have qCS0 : W7.cell? ⟨cs, 0, none⟩ = some (.slice AS U.length cS) := block_cell CS_35.out 0
  have qCS1 : W7.cell? ⟨cs, 1, none⟩ = some (.slice BS S.length dS) := block_cell CS_35.out 1
  have lCS := block_lt CS_35.out
  have qCW0 : W7.cell? ⟨cw, 0, none⟩ = some (.slice AW U.length cW) := block_cell CW_37.out 0
  have qCW1 : W7.cell? ⟨cw, 1, none⟩ = some (.slice BW S.length dW) := block_cell CW_37.out 1
  have lCW := block_lt CW_37.out
  have qCA00 : W7.cell? ⟨ca0, 0, none⟩ = some (.slice P0 U.length i0) := block_cell CA0_32.out 0
  have qCA01 : W7.cell? ⟨ca0, 1, none⟩ = some (.slice Q0 M.length j0) := block_cell CA0_32.out 1
  have lCA0 := block_lt CA0_32.out
  have hgc := cell_grown
  have uCS0 : ∀ w', Ext W7 w' → w'.cell? ⟨cs, 0, none⟩ = some (.slice AS U.length cS) := fun w' hE => (ext_cell hE _ _ lCS).trans qCS0
  have uCS1 : ∀ w', Ext W7 w' → w'.cell? ⟨cs, 1, none⟩ = some (.slice BS S.length dS) := fun w' hE => (ext_cell hE _ _ lCS).trans qCS1
  have uCW0 : ∀ w', Ext W7 w' → w'.cell? ⟨cw, 0, none⟩ = some (.slice AW U.length cW) := fun w' hE => (ext_cell hE _ _ lCW).trans qCW0
  have uCW1 : ∀ w', Ext W7 w' → w'.cell? ⟨cw, 1, none⟩ = some (.slice BW S.length dW) := fun w' hE => (ext_cell hE _ _ lCW).trans qCW1
  have uCA00 : ∀ w', Ext W7 w' → w'.cell? ⟨ca0, 0, none⟩ = some (.slice P0 U.length i0) := fun w' hE => (ext_cell hE _ _ lCA0).trans qCA00
  have uCA01 : ∀ w', Ext W7 w' → w'.cell? ⟨ca0, 1, none⟩ = some (.slice Q0 M.length j0) := fun w' hE => (ext_cell hE _ _ lCA0).trans qCA01
  refine wp_region_each [] [0, 1] [(2, false, (fun v => v = .bool true), fun _ _ => True), (3, false, (fun v => v = .bool true), fun _ _ => True), (4, false, (fun v => v = (.agg #[.slice AS U.length cS, .slice BS S.length dS])), fun _ _ => True), (5, false, (fun v => v = (.agg #[.slice P0 U.length i0, .slice Q0 M.length j0])), fun _ _ => True), (6, false, (fun v => v = .bool true), fun _ _ => True), (7, false, (fun v => v = .bool true), fun _ _ => True), (8, false, (fun v => v = .bool true), fun _ _ => True), (9, false, (fun v => v = (.agg #[.slice AS U.length cS, .slice BS S.length dS])), fun _ _ => True), (10, false, (fun v => v = .func (.func 38) #[] #[]), fun _ _ => True), (11, false, (fun _ => True), TabQ 0 U S), (12, false, (fun v => v = (.agg #[.slice AW U.length cW, .slice BW S.length dW])), fun _ _ => True), (13, false, (fun v => v = .bool true), fun _ _ => True), (14, false, (fun v => v = .bool true), fun _ _ => True), (15, false, (fun v => v = .bool true), fun _ _ => True), (16, false, (fun v => v = (.agg #[.slice AS U.length cS, .slice BS S.length dS])), fun _ _ => True), (17, false, (fun _ => True), TabQ 0 U (distQ S)), (18, false, (fun v => v = (.agg #[.slice AW U.length cW, .slice BW S.length dW])), fun _ _ => True), (19, false, (fun _ => True), fun v w' => TD w' v U (distQ S)), (20, false, (fun v => v = .bool true), fun _ _ => True), (21, false, (fun v => v = .bool true), fun _ _ => True)] [22] [2, 3, 4, 5, 6, 7, 8, 9, 10, 11, 12, 13, 14, 15, 16, 17, 18, 19, 20, 21] rfl (by kernel_rfl) (by kernel_rfl) (fun _ _ d _ _ h => by cases d <;> exact h) ?_
  refine wpPre_nil ?_
  repeat (refine wpLoose_step rfl (fun K hK => ?_); (try simp only [Oper.quietAt, Oper.quietUpon]); go_simp; (refine hK _ ?_; clear hK K))
  refine wpLoose_nil ?_
  clear qCS0 qCS1 lCS qCW0 qCW1 lCW qCA00 qCA01 lCA0 hgc
  refine wpGz_pure1 (fun _ _ _ h h1 w' hw hs => h1 w' hw (h _ hs)) rfl (fun w6 hE6 hS6 => ?_) (fun K hK => ?_)
  · simp only [opAt, runsAt]
    go_simp
    refine (isT _ _ w6 ⟨_, _, rfl, own_low (own_ext OS_34.out hE6) (Nat.zero_le _)⟩ (tD_ext TDS_36.out hE6) TBS.out (by omega) (by omega)).mono ?_
    rintro e w7 ⟨rfl, h4⟩
    first | exact ⟨rfl, h4⟩ | exact ⟨_, rfl, h4, rfl⟩
  go_simp
  refine hK _ ?_
  clear hK K
  refine wpGz_pure1 (fun _ _ _ h h1 w' hw hs => h1 w' hw (h _ hs)) rfl (fun w6 hE6 hS6 => ?_) (fun K hK => ?_)
  · simp only [opAt, runsAt]
    go_simp
    all_goals (first | exact ⟨ext_refl _, rfl⟩ | exact ext_refl _ | rfl | trivial)
  go_simp
  refine hK _ ?_
  clear hK K
  refine wpGz_pure1 (fun _ _ _ h h1 w' hw hs => h1 w' hw (h _ hs)) rfl (fun w6 hE6 hS6 => ?_) (fun K hK => ?_)
  · simp only [opAt, runsAt]
    go_simp
    all_goals (first | exact ⟨ext_refl _, rfl⟩ | exact ext_refl _ | rfl | trivial)
  go_simp
  refine hK _ ?_
  clear hK K
  refine wpGz_pure1 (fun _ _ _ h h1 w' hw hs => h1 w' hw (h _ hs)) rfl (fun w6 hE6 hS6 => ?_) (fun K hK => ?_)
  · simp only [opAt, runsAt]
    go_simp
    all_goals (first | exact ⟨ext_refl _, rfl⟩ | exact ext_refl _ | rfl | trivial)
  go_simp
  refine hK _ ?_
  clear hK K
  refine wpGz_pure1 (fun _ _ _ h h1 w' hw hs => h1 w' hw (h _ hs)) rfl (fun w6 hE6 hS6 => ?_) (fun K hK => ?_)
  · simp only [opAt, runsAt]
    go_simp
    have hs := sameT _ _ w6 ⟨_, _, rfl, own_low (own_ext OS_34.out hE6) (Nat.zero_le _)⟩ ⟨_, _, rfl, own_low (own_ext OA0_30.out hE6) (Nat.zero_le _)⟩ (tabP_ext HTP.out (ext_trans HE_28.out hE6)) TBOS.out TB0.out (by omega) (by omega) (by omega) (by omega)
    rw [(show sameB U U (rowsD U S) (rowsD U M) = true by rw [DS.out]; exact sort_self M)] at hs
    refine hs.mono ?_
    rintro e w7 ⟨rfl, h4⟩
    first | exact ⟨rfl, h4⟩ | exact ⟨_, rfl, h4, rfl⟩
  go_simp
  refine hK _ ?_
  clear hK K
  refine wpGz_pure1 (fun _ _ _ h h1 w' hw hs => h1 w' hw (h _ hs)) rfl (fun w6 hE6 hS6 => ?_) (fun K hK => ?_)
  · simp only [opAt, runsAt]
    go_simp
    all_goals (first | exact ⟨ext_refl _, rfl⟩ | exact ext_refl _ | rfl | trivial)
  go_simp
  refine hK _ ?_
  clear hK K
  refine wpGz_pure1 (fun _ _ _ h h1 w' hw hs => h1 w' hw (h _ hs)) rfl (fun w6 hE6 hS6 => ?_) (fun K hK => ?_)
  · simp only [opAt, runsAt]
    go_simp
    all_goals (first | exact ⟨ext_refl _, rfl⟩ | exact ext_refl _ | rfl | trivial)
  go_simp
  refine hK _ ?_
  clear hK K
  refine wpGz_pure1 (fun _ _ _ h h1 w' hw hs => h1 w' hw (h _ hs)) rfl (fun w6 hE6 hS6 => ?_) (fun K hK => ?_)
  · simp only [opAt, runsAt]
    go_simp
    all_goals (first | exact ⟨ext_refl _, rfl⟩ | exact ext_refl _ | rfl | trivial)
  go_simp
  refine hK _ ?_
  clear hK K
  refine wpGz_pure1 (fun _ _ _ h h1 w' hw hs => h1 w' hw (h _ hs)) rfl (fun w6 hE6 hS6 => ?_) (fun K hK => ?_)
  · simp only [opAt, runsAt]
    go_simp
    all_goals (first | exact ⟨ext_refl _, rfl⟩ | exact ext_refl _ | rfl | trivial)
  go_simp
  refine hK _ ?_
  clear hK K
  refine wpGz_step1 rfl tabF_ext ⟨undef, trivial⟩ (fun w6 hE6 hS6 => ?_) (fun v11 _ K hK => ?_)
  · simp only [opAt, runsAt]
    go_simp
    refine (sortTA _ w6 ⟨_, _, rfl, own_low (own_ext OS_34.out hE6) (Nat.zero_le _)⟩ DS.out TBOS.out (by omega) (by omega)).mono ?_
    rintro e w7 ⟨v', rfl, h3, h4⟩
    exact ⟨_, rfl, h4, by obtain ⟨x1, x2, x3, x4⟩ := h3; exact ⟨x1, x2, x3, own_low x4 (Nat.zero_le _)⟩⟩
  go_simp
  refine hK _ ?_
  clear hK K
  refine wpGz_pure1 (fun _ _ _ h h1 w' hw hs => h1 w' hw (h _ hs)) rfl (fun w6 hE6 hS6 => ?_) (fun K hK => ?_)
  · simp only [opAt, runsAt]
    go_simp
    all_goals (first | exact ⟨ext_refl _, rfl⟩ | exact ext_refl _ | rfl | trivial)
  go_simp
  refine hK _ ?_
  clear hK K
  refine wpGz_pure1 (fun _ _ _ h h1 w' hw hs => h1 w' hw (h _ hs)) rfl (fun w6 hE6 hS6 => ?_) (fun K hK => ?_)
  · simp only [opAt, runsAt]
    go_simp
    refine (isT _ _ w6 (hS6 _ (List.mem_cons_self ..) (by kernel_rfl)) (tD_ext TDS_36.out hE6) TBS.out (by omega) (by omega)).mono ?_
    rintro e w7 ⟨rfl, h4⟩
    first | exact ⟨rfl, h4⟩ | exact ⟨_, rfl, h4, rfl⟩
  go_simp
  refine hK _ ?_
  clear hK K
  refine wpGz_pure1 (fun _ _ _ h h1 w' hw hs => h1 w' hw (h _ hs)) rfl (fun w6 hE6 hS6 => ?_) (fun K hK => ?_)
  · simp only [opAt, runsAt]
    go_simp
    all_goals (first | exact ⟨ext_refl _, rfl⟩ | exact ext_refl _ | rfl | trivial)
  go_simp
  refine hK _ ?_
  clear hK K
  refine wpGz_pure1 (fun _ _ _ h h1 w' hw hs => h1 w' hw (h _ hs)) rfl (fun w6 hE6 hS6 => ?_) (fun K hK => ?_)
  · simp only [opAt, runsAt]
    go_simp
    all_goals (first | exact ⟨ext_refl _, rfl⟩ | exact ext_refl _ | rfl | trivial)
  go_simp
  refine hK _ ?_
  clear hK K
  refine wpGz_pure1 (fun _ _ _ h h1 w' hw hs => h1 w' hw (h _ hs)) rfl (fun w6 hE6 hS6 => ?_) (fun K hK => ?_)
  · simp only [opAt, runsAt]
    go_simp
    all_goals (first | exact ⟨ext_refl _, rfl⟩ | exact ext_refl _ | rfl | trivial)
  go_simp
  refine hK _ ?_
  clear hK K
  refine wpGz_step1 rfl tabF_ext ⟨undef, trivial⟩ (fun w6 hE6 hS6 => ?_) (fun v17 _ K hK => ?_)
  · simp only [opAt, runsAt]
    go_simp
    refine (distTQ _ w6 ⟨_, _, rfl, own_low (own_ext OS_34.out hE6) (Nat.zero_le _)⟩ (tabP_ext HTP.out (ext_trans HE_28.out hE6)) TBOS.out (by omega) (by omega)).mono ?_
    rintro e w7 ⟨v', rfl, h3, h4⟩
    exact ⟨_, rfl, h4, by obtain ⟨x1, x2, x3, x4⟩ := h3; exact ⟨x1, x2, x3, own_low x4 (Nat.zero_le _)⟩⟩
  go_simp
  refine hK _ ?_
  clear hK K
  refine wpGz_pure1 (fun _ _ _ h h1 w' hw hs => h1 w' hw (h _ hs)) rfl (fun w6 hE6 hS6 => ?_) (fun K hK => ?_)
  · simp only [opAt, runsAt]
    go_simp
    all_goals (first | exact ⟨ext_refl _, rfl⟩ | exact ext_refl _ | rfl | trivial)
  go_simp
  refine hK _ ?_
  clear hK K
  refine wpGz_step1 rfl (fun v a b hE h => tD_ext h hE) ⟨undef, trivial⟩ (fun w6 hE6 hS6 => ?_) (fun v19 _ K hK => ?_)
  · simp only [opAt, runsAt]
    go_simp
    refine (rdistT _ w6 (tD_ext TDS_36.out hE6)  TBS.out (by omega) (by omega)).mono ?_
    rintro e w7 ⟨v', rfl, h3, h4⟩
    exact ⟨_, rfl, h4, h3⟩
  go_simp
  refine hK _ ?_
  clear hK K
  refine wpGz_pure1 (fun _ _ _ h h1 w' hw hs => h1 w' hw (h _ hs)) rfl (fun w6 hE6 hS6 => ?_) (fun K hK => ?_)
  · simp only [opAt, runsAt]
    go_simp
    refine (isT _ _ w6 (hS6 _ (List.mem_cons_of_mem _ (List.mem_cons_self ..)) (by kernel_rfl)) (hS6 _ (List.mem_cons_self ..) (by kernel_rfl)) (tb_keep TBS.out _) (by omega) (by omega)).mono ?_
    rintro e w7 ⟨rfl, h4⟩
    first | exact ⟨rfl, h4⟩ | exact ⟨_, rfl, h4, rfl⟩
  go_simp
  refine hK _ ?_
  clear hK K
  refine wpGz_pure1 (fun _ _ _ h h1 w' hw hs => h1 w' hw (h _ hs)) rfl (fun w6 hE6 hS6 => ?_) (fun K hK => ?_)
  · simp only [opAt, runsAt]
    go_simp
    all_goals (first | exact ⟨ext_refl _, rfl⟩ | exact ext_refl _ | rfl | trivial)
  go_simp
  refine hK _ ?_
  clear hK K
  refine wpGz_nil (fun w6 hE6 hS6 => ?_)
  clear hS6 uCS0 uCS1 uCW0 uCW1 uCA00 uCA01
  obtain ⟨w8, hw⟩ : ∃ w, w = w6 := ⟨_, rfl⟩
  subst hw
  have HE_38 := Lib.hid (ext_trans HE_28.out hE6)
  clear HE_28
  have X0_39 := Lib.hid ((ext_block hE6 (block_lt X0_29.out)).trans X0_29.out)
  clear X0_29
  have OA0_40 := Lib.hid (own_ext OA0_30.out hE6)
  clear OA0_30
  have TD0_41 := Lib.hid (tD_ext TD0_31.out hE6)
  clear TD0_31
  have CA0_42 := Lib.hid ((ext_block hE6 (block_lt CA0_32.out)).trans CA0_32.out)
  clear CA0_32
  have CM0_43 := Lib.hid ((ext_block hE6 (block_lt CM0_33.out)).trans CM0_33.out)
  clear CM0_33
  have OS_44 := Lib.hid (own_ext OS_34.out hE6)
  clear OS_34
  have CS_45 := Lib.hid ((ext_block hE6 (block_lt CS_35.out)).trans CS_35.out)
  clear CS_35
  have TDS_46 := Lib.hid (tD_ext TDS_36.out hE6)
  clear TDS_36
  have CW_47 := Lib.hid ((ext_block hE6 (block_lt CW_37.out)).trans CW_37.out)
  clear CW_37
  clear hE6
  refine wpSeq_of_list [22] [_] _ _ rfl ?_
  go_wp2
  refine bodyPost_ret (results_tmp rfl _ _ _) rfl ?_
  exact ⟨rfl, HE_38.out⟩
end Go.Proofs.YtniggdaakiofeaaDoor
namespace Go.Proofs.YtniggdaakiofeaaDoor
open Go.ChangeShapes Go.WideShapes Go.ChangeAt Go.WideMaps Go.WideElems Go.RowKit

set_option maxRecDepth 100000 in
theorem sorts_lifted (os : Os) (started : os.Started) (H : Type) (enc : TypeId × Value → H) :
    ReturnsInHanded {} Tryd.checked os 8 .any (fun w args => (Rows.solutionSortsSpec.pre enc Tryd.prog Tryd.f8 [] false w args ∧ laidMetH Tryd.prog laid3 w) ∧ sizedMet enc Tryd.prog Tryd.f8 (OpenSpec.ofChange Rows.solutionSortsSpec) false w args)
      (Rows.solutionSortsSpec.post enc Tryd.prog Tryd.f8 false true false false) := by
  refine returnsInHanded_of_change_and (C := Tryd.checked) (X := fun w _ => laidMetH Tryd.prog laid3 w) (fun _ _ _ hh h => h.of_heap hh) own started (by kernel_rfl) Tryd.func8
    (ChangeSpec.witness_shaped (enc := enc) (C := Tryd.checked) (os := os) (X := fun w _ => laidMetH Tryd.prog laid3 w) false (World.doorLaid Tryd.prog 24 os) #[.agg #[.slice none 0 0, .slice none 0 0]] 8 rfl (World.shaped_of_RefB (by kernel_rfl) (by kernel_rfl)) (by kernel_rfl) (by kernel_rfl) (by kernel_rfl) (door_met os _)) ?_
  intro W base args ds gs before hval0 hW _ _ hL _
  have hval : ∀ (j : Nat) t v, Tryd.f8.params[j]? = some t → args[j]? = some v → Value.okWide Tryd.prog W .any base t v := hval0
  have hW' := hW
  obtain ⟨p, q, hA0, hV, rfl, hfz, hnd⟩ := hW
  have hA : DataW.TrodAll enc Tryd.prog W 0 (fun _ => true) true Tryd.f8.params.toList args.toList ds p := hA0
  rw [Tryd.params8] at hA hval
  obtain ⟨v0, vs0, d0, ds0, p0, q0, hargs, rfl, rfl, h0, r0⟩ := trodAll_cons hA
  obtain ⟨rfl, rfl, rfl⟩ := trodAll_nil r0
  obtain rfl : args = #[v0] := by cases args; simp_all
  obtain ⟨rfl, rfl⟩ := trodVars_none hV
  have lt0 : ∀ x ∈ p0, x.block < W.heap.size := by obtain ⟨m, hm⟩ := h0; exact DataW.trod_lt m _ _ _ hm
  obtain ⟨L0, M0, ha0, hl0, hm0, hn0⟩ := open_raw (hval 0 25 v0 rfl rfl) h0
  clear hA0 hval0
  refine (sorts_law v0 L0 M0 W ha0 hl0 hm0 hn0 (laid_of hL)).mono fun e W' ⟨he, bel⟩ => ?_
  subst he
  have bel : Below W.heap.size W W' := bel
  exact ⟨_, rfl, _, _, _, [], _, [], hW', trodAll_mk1 (shut_bool Tryd.underlying4 _), (trodAll_cons_mk (Below.trod laidOut (by kernel_rfl) (of_decide_eq_true (by kernel_rfl)) h0 bel lt0) trodAll_mk0), rfl, bel.frame _, fun h => by cases h⟩

theorem sorts_row_holds : Rows.SolutionSortsSaid :=
  OpenClaim.holds_of_wide 8 Tryd.f8 rfl rfl rfl rfl rfl rfl rfl ⟨rfl, rfl, rfl, rfl, rfl⟩ rfl rfl rfl rfl rfl (by kernel_rfl) Tryd.func8 (by kernel_rfl)
    (of_decide_eq_true (by kernel_rfl)) (by unfold Func.isWrapper; first | (rw [if_pos (by decide +kernel)]; kernel_rfl) | (rw [if_neg (by decide +kernel)]; exact ⟨rfl, rfl⟩))
    (fun os started H enc _ => sorts_lifted os started H enc)

theorem sorts_holds : Rows.SolutionSortsCardSaid :=
  Claim7.holds_tied_plain_at .later [] [.data, .data, .data] true (true, "811115b5137751a59115d0a76d186c9ee974b6775d4f794146eca61a1d024a5a") false
    sorts_row_holds (fun _ h => by cases h) (by kernel_rfl) (fun _ h => by cases h) solutionSorts_row_tie rfl ⟨rfl, rfl⟩ (by kernel_rfl) rfl
    (fun f fn hf hfn => by
      obtain rfl : f = 8 := Option.some.inj ((show Tryd.prog.funcNamed "beck/becklaw14.SolutionSorts" = some 8 by kernel_rfl).symm.trans hf) |>.symm
      obtain rfl : fn = Tryd.f8 := (Option.some.inj (Tryd.func8.symm.trans hfn)).symm
      exact ⟨by kernel_rfl, fun j t ht => by
        rw [Tryd.params8] at ht
        have hm : t ∈ [25] := by simpa using Array.mem_of_getElem? ht
        have hall : ([25].all fun u => !Tryd.prog.wantsStandIn u) = true := by kernel_rfl
        exact (show Tryd.prog.wantsStandIn t = false by simpa using List.all_eq_true.1 hall t hm)⟩)
    (by kernel_rfl)
#print axioms sorts_holds
end Go.Proofs.YtniggdaakiofeaaDoor
