/- The law Extends. -/
import Derived.Test.YtniggdaakiofeaaTl
namespace Go.Proofs.Ytniggdaakiofeaa
open Go Go.RowKit Go.Sort
set_option maxHeartbeats 4000000

abbrev aS : ByteArray := { data := #[97] }
abbrev bS : ByteArray := { data := #[98] }
theorem eg18 (args : Array Value) (w : World) : (callFunc 18 args).run Try.prog w = .ok (.enter 18 args) w := enter_fn Try.func18 (by kernel_rfl) rfl args w
def abN (V : List ByteArray) (x : List Int) : Int := valN V x aS + valN V x bS
theorem extendsF_any (tv xv : Value) (V : List ByteArray) (R : List (List Int)) (x : List Int) (w : World) (ht : TabV w tv V R) (hx : RdI w xv x) (hV : RiseS V) (hv : V.length ≤ 1000000) (hl : x.length = V.length) (hs : ∀ u, -1 ≤ valN V x u ∧ valN V x u ≤ 1000) :
    Calls Try.prog 18 #[tv, xv] w fun e w' => e = .returned (.int .i64 (abN V x)) ∧ Ext w w' := by
  have CV := Lib.hid (fun u w' (hE : Ext w w') => value_any tv xv V R x u w' (tabV_ext ht hE) (rdI_ext hx hE) hV hv hl)
  obtain ⟨vv, rv, rfl, h1, h2⟩ := ht
  obtain ⟨A1, c1, rfl⟩ := rdS_form h1
  obtain ⟨A2, c2, rfl⟩ := rdW_form h2
  obtain ⟨A3, c3, rfl⟩ := rdI_form hx
  have ha := hs { data := #[97] }
  have hb := hs { data := #[98] }
  have hsum : IntKind.i64.wrap (valN V x { data := #[97] } + valN V x { data := #[98] }) = valN V x { data := #[97] } + valN V x { data := #[98] } := IntWalk.i64_in _ (by omega)
  have HE0 := Lib.hid (ext_alloc (ext_refl w) (.cells #[.slice A1 V.length c1, .slice A2 R.length c2] 27))
  have hgc := cell_grown
  clear h1 h2 hx hV hs ha hb hl
  go_enter Try.func18, Try.ntmps18
  go_wp2
  refine wp_region_free 8 [0, 1, 2, 3, 4, 5, 6, 7] [] (by kernel_rfl) (by kernel_rfl) ?_
  repeat (refine wpLoose_step rfl (fun K hK => ?_); (try simp only [Oper.quietAt, Oper.quietUpon]); go_simp; first | (refine hK _ ?_; clear hK K) | (apply Exists.intro; refine ⟨fun p => ?_, hK _ ?_⟩; (go_at_call 15; exact CV.out _ _ (ext_trans HE0.out (ext_grow (ext_refl _) _ _))); clear hK K))
  refine wpLoose_nil (wpFresh_nil (fun w3 hE3 _ => ?_))
  simp only [List.drop_succ_cons, List.drop_zero]
  refine wpList_nil ?_
  have HE3 := Lib.hid (ext_trans HE0.out hE3)
  clear hE3 hgc
  go_wp2
  refine bodyPost_ret (results_tmp rfl _ _ _) rfl ?_
  exact ⟨rfl, HE3.out⟩

def extD (v : ByteArray) (r : List VarN) : List VarN := putR r v (getR r aS + getR r bS)
theorem extD_ok {U : List ByteArray} {r : List VarN} (v : ByteArray) (h : okR U r) : okR (setS (U ++ [v])) (extD v r) :=
  ⟨rise_putR h.1, fun u hu => by
    rw [mem_setS, List.mem_append]
    rcases keys_putR hu with h1 | h1
    · exact .inl (h.2 u h1)
    · exact .inr (by rw [h1]; exact List.mem_cons_self ..)⟩
theorem ext_same {U : List ByteArray} {M : List (List VarN)} {v : ByteArray} (hv : v ∉ U) (hM : ∀ r ∈ M, okR U r) : (rowsD U M).map (extRow U v (abN U)) = rowsD (setS (U ++ [v])) (M.map (extD v)) := by
  unfold rowsD
  rw [List.map_map, List.map_map]
  refine List.map_congr_left (fun r hr => ?_)
  have ok := hM r hr
  simp only [Function.comp, extRow]
  refine rowD_of (extD_ok v ok).1 (fun u _ => ?_)
  have hm : getR r v = -1 := getR_out (fun h => hv (ok.2 v h))
  have hlo := getR_lo ok.1 u
  unfold extG extD abN
  rw [getR_putR ok.1, valN_rowD ok, valN_rowD ok, valN_rowD ok]
  by_cases e : u = v
  · rw [if_pos e, if_pos ⟨e.symm, by omega⟩]
  · rw [if_neg e, if_neg (fun h => e h.1.symm)]
    omega
theorem ext_lo {U : List ByteArray} {M : List (List VarN)} (hM : IsT U M) : ∀ x ∈ rowsD U M, ∀ u, -1 ≤ valN U x u ∧ valN U x u ≤ 1000 := by
  intro x hx u
  obtain ⟨r, hr, rfl⟩ := List.mem_map.1 hx
  rw [valN_rowD (hM.ok r hr)]
  exact ⟨getR_lo (hM.ok r hr).1 u, get_small (hM.small r hr) u⟩

set_option maxRecDepth 100000 in
theorem extends_law (v0 : Value) (t : Nat) (xs : List Nat) (rs : List (List Nat)) (w : World) (h0 : RawV w v0 xs rs) (l0 : xs.length ≤ maxLen) (m0 : rs.length ≤ maxLen) (n0 : ∀ r ∈ rs, r.length ≤ maxLen) (ht : t ≤ 255) :
    Calls Try.prog 5 #[v0, .int .u8 (t : Int)] w fun e w' => e = .returned (.bool true) ∧ Ext w w' := by
  have hml : maxLen ≤ 9223372036854775807 := by decide
  have F0 := Lib.hid (fun w' (hE : Ext w w') => few_any v0 xs rs w' (rawV_ext h0 hE) (Nat.le_trans l0 hml) (Nat.le_trans m0 hml) (fun r hr => Nat.le_trans (n0 r hr) hml))
  have HR0 := Lib.hid h0
  obtain ⟨a0, d0, rfl, p0, q0⟩ := h0
  obtain ⟨A0, c0, rfl⟩ := rdU_form p0
  obtain ⟨B0, e0, rfl⟩ := rdUU_form q0
  clear p0 q0 l0 m0 n0
  clear hml
  have HE_1 := Lib.hid (ext_refl w)
  go_enter Try.func5, Try.ntmps5
  go_wp2_with fail
  refine (awake_any _).mono ?_
  rintro e w1 ⟨rfl, hE⟩
  obtain ⟨hE, g0⟩ := ext1 hE
  have HE_2 := Lib.hid (ext_trans HE_1.out hE)
  clear HE_1
  obtain ⟨bx0, hbx0⟩ : ∃ bx0, bx0 = w.heap.size := ⟨_, rfl⟩
  try rw [← hbx0]
  rw [← hbx0] at g0
  have X0_3 := Lib.hid (show w1.heap[bx0]? = some (.cells #[.slice A0 xs.length c0, .slice B0 rs.length e0] 32 (0, 0)) from g0)
  have Sbx0 := Lib.hid hbx0
  clear g0 hbx0
  clear hE
  have qX00 : w1.cell? ⟨bx0, 0, none⟩ = some (.slice A0 xs.length c0) := block_cell X0_3.out 0
  have qX01 : w1.cell? ⟨bx0, 1, none⟩ = some (.slice B0 rs.length e0) := block_cell X0_3.out 1
  have lX0 := block_lt X0_3.out
  go_wp2_with fail
  clear qX00 qX01 lX0
  refine (F0.out _ HE_2.out).mono ?_
  rintro e w2 ⟨rfl, hE⟩
  have HE_4 := Lib.hid (ext_trans HE_2.out hE)
  clear HE_2
  have X0_5 := Lib.hid ((ext_block hE (block_lt X0_3.out)).trans X0_3.out)
  clear X0_3
  clear hE
  obtain ⟨f0, hf0⟩ : ∃ f, f = fewB xs rs := ⟨_, rfl⟩
  rw [← hf0]
  have HF0 := Lib.hid hf0
  clear hf0
  cases f0
  · skip
    go_wp2_with fail
    refine (awake_any _).mono ?_
    rintro e w3 ⟨rfl, hE⟩
    have HE_6 := Lib.hid (ext_trans HE_4.out hE)
    clear HE_4
    have X0_7 := Lib.hid ((ext_block hE (block_lt X0_5.out)).trans X0_5.out)
    clear X0_5
    clear hE
    go_wp2
    refine bodyPost_ret (results_tmp rfl _ _ _) rfl ?_
    exact ⟨rfl, HE_6.out⟩
  obtain ⟨U, hU⟩ : ∃ U, U = setS (namesOf xs) := ⟨_, rfl⟩
  obtain ⟨M, hM⟩ : ∃ M, M = docT xs rs := ⟨_, rfl⟩
  have IT0 := Lib.hid (show IsT U M by rw [hU, hM]; exact isT_of HF0.out.symm)
  have DU := Lib.hid hU
  have DM := Lib.hid hM
  clear hU hM
  have qX00 : w2.cell? ⟨bx0, 0, none⟩ = some (.slice A0 xs.length c0) := block_cell X0_5.out 0
  have qX01 : w2.cell? ⟨bx0, 1, none⟩ = some (.slice B0 rs.length e0) := block_cell X0_5.out 1
  have lX0 := block_lt X0_5.out
  go_wp2_with fail
  clear qX00 qX01 lX0
  refine (build_spec _ xs rs U M _ DU.out DM.out (rawV_ext HR0.out HE_4.out) HF0.out.symm).mono ?_
  rintro e w4 ⟨P0, i0, Q0, j0, D0, k0, G0, o0, rfl, how, htd, hE⟩
  have HE_8 := Lib.hid (ext_trans HE_4.out hE)
  clear HE_4
  have X0_9 := Lib.hid ((ext_block hE (block_lt X0_5.out)).trans X0_5.out)
  clear X0_5
  clear hE
  have bu0 : U.length ≤ 5 := IT0.out.vars
  have br0 : M.length ≤ 8 := IT0.out.rows
  have OA0_10 := Lib.hid (how)
  have TD0_11 := Lib.hid (htd)
  clear how htd
  have ht256 : (0 : Int) ≤ (t : Int) ∧ (t : Int) < 256 := by omega
  have hconv := conv_byte ((w4.alloc (.cells #[.slice P0 U.length i0, .slice Q0 M.length j0] 27)).alloc (.cells #[.slice D0 U.length k0, .slice G0 M.length o0] 36)) (97 + (t : Int) % 7) (97 + t % 7) (by omega)
  obtain ⟨nm, hnm⟩ : ∃ nm, nm = strB (97 + t % 7) := ⟨_, rfl⟩
  rw [← hnm] at hconv
  simp only [World.size_alloc] at hconv
  clear hnm
  have HRL := Lib.hid (show ∀ x ∈ rowsD U M, x.length = U.length from rowsD_mem)
  by_cases hin : idxS U nm < U.length
  · have HIN := Lib.hid hin
    have hdec : decide (idxS U nm < U.length) = true := by simpa using hin
    clear hin
    go_wp2_with fail
    refine (extend_in 18 #[] _ _ U (rowsD U M) nm _ (tabV_ext (own_tab OA0_10.out) (ext_alloc (ext_alloc (ext_alloc (ext_refl _) _) _) _)) IT0.out.rise (by omega) (by rw [rowsD_len]; omega) HRL.out HIN.out).mono ?_
    rintro e w5 ⟨v8, r8, rfl, hog, hE⟩
    obtain ⟨hE, g0, g1, g2⟩ := ext3 hE
    have HE_12 := Lib.hid (ext_trans HE_8.out hE)
    clear HE_8
    have X0_13 := Lib.hid ((ext_block hE (block_lt X0_9.out)).trans X0_9.out)
    clear X0_9
    have OA0_14 := Lib.hid (own_ext OA0_10.out hE)
    clear OA0_10
    have TD0_15 := Lib.hid (tD_ext TD0_11.out hE)
    clear TD0_11
    obtain ⟨ca0, hca0⟩ : ∃ ca0, ca0 = w4.heap.size := ⟨_, rfl⟩
    obtain ⟨cm0, hcm0⟩ : ∃ cm0, cm0 = w4.heap.size + 1 := ⟨_, rfl⟩
    obtain ⟨ub, hub⟩ : ∃ ub, ub = w4.heap.size + 1 + 1 := ⟨_, rfl⟩
    try rw [← hub]
    rw [← hub] at g2
    try rw [← hcm0]
    rw [← hcm0] at g1
    try rw [← hca0]
    rw [← hca0] at g0
    have CA0_16 := Lib.hid (show w5.heap[ca0]? = some (.cells #[.slice P0 U.length i0, .slice Q0 M.length j0] 27 (0, 0)) from g0)
    have Sca0 := Lib.hid hca0
    clear g0 hca0
    have CM0_17 := Lib.hid (show w5.heap[cm0]? = some (.cells #[.slice D0 U.length k0, .slice G0 M.length o0] 36 (0, 0)) from g1)
    have Scm0 := Lib.hid hcm0
    clear g1 hcm0
    have UB_18 := Lib.hid (show w5.heap[ub]? = some (.cells #[.int .u8 (97 + (t : Int) % 7)] 5 (0, 0)) from g2)
    have Sub := Lib.hid hub
    clear g2 hub
    clear hE
    obtain ⟨A10, c10, rfl⟩ := rdS_form (rdS_row hog.1.1)
    obtain ⟨A11, c11, rfl⟩ := rdW_form (own_rdW hog)
    rw [rowsD_len] at hog ⊢
    clear hconv
    have OG_19 := Lib.hid (hog)
    clear hog
    have qCM00 : w5.cell? ⟨cm0, 0, none⟩ = some (.slice D0 U.length k0) := block_cell CM0_17.out 0
    have qCM01 : w5.cell? ⟨cm0, 1, none⟩ = some (.slice G0 M.length o0) := block_cell CM0_17.out 1
    have lCM0 := block_lt CM0_17.out
    have CH := Lib.hid (fun w' (hE : Ext w5 w') => has_any _ U nm w' (rdS_row (rowE_ext (tD_parts TD0_15.out).1 hE)) (by omega))
    rw [hdec] at CH
    go_wp2_with fail
    clear qCM00 qCM01 lCM0
    refine (CH.out _ (ext_alloc (ext_refl _) _)).mono ?_
    rintro e w' ⟨rfl, rfl⟩
    have qCM00 : w5.cell? ⟨cm0, 0, none⟩ = some (.slice D0 U.length k0) := block_cell CM0_17.out 0
    have qCM01 : w5.cell? ⟨cm0, 1, none⟩ = some (.slice G0 M.length o0) := block_cell CM0_17.out 1
    have lCM0 := block_lt CM0_17.out
    go_wp2_with fail
    clear qCM00 qCM01 lCM0
    refine (is_yes _ _ U M _ (tabV_ext (own_tab OG_19.out) (ext_alloc (ext_refl _) _)) (tD_ext TD0_15.out (ext_alloc (ext_refl _) _)) IT0.out.rise IT0.out.ok (by omega) (by omega) (fun r hr => by have := IT0.out.len r hr; omega)).mono ?_
    rintro e w6 ⟨rfl, hE⟩
    obtain ⟨hE, g0⟩ := ext1 hE
    have HE_20 := Lib.hid (ext_trans HE_12.out hE)
    clear HE_12
    have X0_21 := Lib.hid ((ext_block hE (block_lt X0_13.out)).trans X0_13.out)
    clear X0_13
    have OA0_22 := Lib.hid (own_ext OA0_14.out hE)
    clear OA0_14
    have TD0_23 := Lib.hid (tD_ext TD0_15.out hE)
    clear TD0_15
    have CA0_24 := Lib.hid ((ext_block hE (block_lt CA0_16.out)).trans CA0_16.out)
    clear CA0_16
    have CM0_25 := Lib.hid ((ext_block hE (block_lt CM0_17.out)).trans CM0_17.out)
    clear CM0_17
    have UB_26 := Lib.hid ((ext_block hE (block_lt UB_18.out)).trans UB_18.out)
    clear UB_18
    have OG_27 := Lib.hid (own_ext OG_19.out hE)
    clear OG_19
    obtain ⟨cg, hcg⟩ : ∃ cg, cg = w5.heap.size := ⟨_, rfl⟩
    try rw [← hcg]
    rw [← hcg] at g0
    have CG_28 := Lib.hid (show w6.heap[cg]? = some (.cells #[.slice A10 U.length c10, .slice A11 M.length c11] 27 (0, 0)) from g0)
    have Scg := Lib.hid hcg
    clear g0 hcg
    clear hE
    go_wp2
    refine bodyPost_ret (results_tmp rfl _ _ _) rfl ?_
    exact ⟨rfl, HE_20.out⟩
  · have HIN := Lib.hid hin
    have hdec : decide (idxS U nm < U.length) = false := by simpa using hin
    clear hin
    have HNI := Lib.hid (show nm ∉ U from fun h => HIN.out (idxS_lt.2 h))
    have HLO := Lib.hid (ext_lo IT0.out)
    go_wp2_with fail
    refine (extend_out 18 #[] eg18 (abN U) _ _ U (rowsD U M) nm _ (tabV_ext (own_tab OA0_10.out) (ext_alloc (ext_alloc (ext_alloc (ext_refl _) _) _) _)) IT0.out.rise (by omega) (by rw [rowsD_len]; omega) HRL.out HIN.out (fun x xv w1 hxm _ htv hxr => extendsF_any _ xv U _ x w1 htv hxr IT0.out.rise (by omega) (HRL.out x hxm) (HLO.out x hxm))).mono ?_
    rintro e w7 ⟨v8, r8, rfl, hog, hE⟩
    obtain ⟨hE, g0, g1, g2⟩ := ext3 hE
    have HE_29 := Lib.hid (ext_trans HE_8.out hE)
    clear HE_8
    have X0_30 := Lib.hid ((ext_block hE (block_lt X0_9.out)).trans X0_9.out)
    clear X0_9
    have OA0_31 := Lib.hid (own_ext OA0_10.out hE)
    clear OA0_10
    have TD0_32 := Lib.hid (tD_ext TD0_11.out hE)
    clear TD0_11
    obtain ⟨ca0, hca0⟩ : ∃ ca0, ca0 = w4.heap.size := ⟨_, rfl⟩
    obtain ⟨cm0, hcm0⟩ : ∃ cm0, cm0 = w4.heap.size + 1 := ⟨_, rfl⟩
    obtain ⟨ub, hub⟩ : ∃ ub, ub = w4.heap.size + 1 + 1 := ⟨_, rfl⟩
    try rw [← hub]
    rw [← hub] at g2
    try rw [← hcm0]
    rw [← hcm0] at g1
    try rw [← hca0]
    rw [← hca0] at g0
    have CA0_33 := Lib.hid (show w7.heap[ca0]? = some (.cells #[.slice P0 U.length i0, .slice Q0 M.length j0] 27 (0, 0)) from g0)
    have Sca0 := Lib.hid hca0
    clear g0 hca0
    have CM0_34 := Lib.hid (show w7.heap[cm0]? = some (.cells #[.slice D0 U.length k0, .slice G0 M.length o0] 36 (0, 0)) from g1)
    have Scm0 := Lib.hid hcm0
    clear g1 hcm0
    have UB_35 := Lib.hid (show w7.heap[ub]? = some (.cells #[.int .u8 (97 + (t : Int) % 7)] 5 (0, 0)) from g2)
    have Sub := Lib.hid hub
    clear g2 hub
    clear hE
    rw [ext_same HNI.out IT0.out.ok] at hog
    obtain ⟨VV, hVV⟩ : ∃ VV, VV = setS (U ++ [nm]) := ⟨_, rfl⟩
    obtain ⟨Q, hQ⟩ : ∃ Q, Q = M.map (extD nm) := ⟨_, rfl⟩
    rw [← hVV, ← hQ] at hog
    have DVV := Lib.hid hVV
    have DQ := Lib.hid hQ
    have HQL := Lib.hid (show Q.length = M.length by rw [hQ]; simp)
    clear hVV hQ
    obtain ⟨A10, c10, rfl⟩ := rdS_form (rdS_row hog.1.1)
    obtain ⟨A11, c11, rfl⟩ := rdW_form (own_rdW hog)
    rw [rowsD_len] at hog ⊢
    clear hconv
    have OG_36 := Lib.hid (hog)
    clear hog
    have qCM00 : w7.cell? ⟨cm0, 0, none⟩ = some (.slice D0 U.length k0) := block_cell CM0_34.out 0
    have qCM01 : w7.cell? ⟨cm0, 1, none⟩ = some (.slice G0 M.length o0) := block_cell CM0_34.out 1
    have lCM0 := block_lt CM0_34.out
    have CH := Lib.hid (fun w' (hE : Ext w7 w') => has_any _ U nm w' (rdS_row (rowE_ext (tD_parts TD0_32.out).1 hE)) (by omega))
    rw [hdec] at CH
    go_wp2_with fail
    clear qCM00 qCM01 lCM0
    refine (CH.out _ (ext_alloc (ext_refl _) _)).mono ?_
    rintro e w' ⟨rfl, rfl⟩
    have qCM00 : w7.cell? ⟨cm0, 0, none⟩ = some (.slice D0 U.length k0) := block_cell CM0_34.out 0
    have qCM01 : w7.cell? ⟨cm0, 1, none⟩ = some (.slice G0 M.length o0) := block_cell CM0_34.out 1
    have lCM0 := block_lt CM0_34.out
    go_wp2_with fail
    clear qCM00 qCM01 lCM0
    refine (both_any _ _ U [nm] _ (rdS_row (rowE_ext (tD_parts TD0_32.out).1 (ext_alloc (ext_alloc (ext_refl _) _) _))) (rdS_row (oneF_row (E := elS) (H := 0) ⟨_, rfl, Nat.zero_le _, (heap_two _ _ _).2⟩).1) (by omega) (by simp)).mono ?_
    rintro e w8 ⟨vb, rfl, hrb, hE⟩
    obtain ⟨hE, g0, g1⟩ := ext2 hE
    have HE_37 := Lib.hid (ext_trans HE_29.out hE)
    clear HE_29
    have X0_38 := Lib.hid ((ext_block hE (block_lt X0_30.out)).trans X0_30.out)
    clear X0_30
    have OA0_39 := Lib.hid (own_ext OA0_31.out hE)
    clear OA0_31
    have TD0_40 := Lib.hid (tD_ext TD0_32.out hE)
    clear TD0_32
    have CA0_41 := Lib.hid ((ext_block hE (block_lt CA0_33.out)).trans CA0_33.out)
    clear CA0_33
    have CM0_42 := Lib.hid ((ext_block hE (block_lt CM0_34.out)).trans CM0_34.out)
    clear CM0_34
    have UB_43 := Lib.hid ((ext_block hE (block_lt UB_35.out)).trans UB_35.out)
    clear UB_35
    have OG_44 := Lib.hid (own_ext OG_36.out hE)
    clear OG_36
    obtain ⟨cg, hcg⟩ : ∃ cg, cg = w7.heap.size := ⟨_, rfl⟩
    obtain ⟨un, hun⟩ : ∃ un, un = w7.heap.size + 1 := ⟨_, rfl⟩
    try rw [← hun]
    rw [← hun] at g1
    try rw [← hcg]
    rw [← hcg] at g0
    have CG_45 := Lib.hid (show w8.heap[cg]? = some (.cells #[.slice A10 VV.length c10, .slice A11 Q.length c11] 27 (0, 0)) from g0)
    have Scg := Lib.hid hcg
    clear g0 hcg
    have UN_46 := Lib.hid (show w8.heap[un]? = some (.cells #[.string nm] 9 (0, 0)) from g1)
    have Sun := Lib.hid hun
    clear g1 hun
    clear hE
    obtain ⟨A9, c9, rfl⟩ := rowE_form hrb
    rw [← DVV.out] at hrb ⊢
    have HRB := Lib.hid hrb
    clear hrb
    obtain ⟨p, hp⟩ : ∃ p, p = w8.heap.size := ⟨_, rfl⟩
    obtain ⟨W, hW⟩ : ∃ W, W = w8.alloc (.cells #[.slice A9 VV.length c9, .slice none 0 0] 36) := ⟨_, rfl⟩
    have hEW : Ext w8 W := by rw [hW]; exact ext_alloc (ext_refl _) _
    have HT0 := Lib.hid (show TDB (fun g => p ≤ g) W p VV ((M.take 0).map (extD nm)) from ⟨_, _, [], by rw [hW, hp]; exact heap_alloc_new _ _, rowE_ext HRB.out hEW, ⟨rowE_nil _, fun g hg => by cases hg⟩, rowsQ_nil _⟩)
    have HEW := Lib.hid hEW
    have SP := Lib.hid hp
    have qCM00 : w8.cell? ⟨cm0, 0, none⟩ = some (.slice D0 U.length k0) := block_cell CM0_42.out 0
    have qCM01 : w8.cell? ⟨cm0, 1, none⟩ = some (.slice G0 M.length o0) := block_cell CM0_42.out 1
    have lCM0 := block_lt CM0_42.out
    go_wp2
    clear qCM00 qCM01 lCM0
    rw [← hW, ← hp]
    clear hW hp hEW
    go_loopw [49] (fun x wr => ∃ j : Nat, j ≤ M.length ∧ x = .int .i64 j ∧ TDB (fun g => p ≤ g) wr p VV ((M.take j).map (extD nm)) ∧ Ext w8 wr) (fun x _ => M.length - (intOf x).toNat)
    case atStart => exact ⟨0, Nat.zero_le _, rfl, HT0.out, HEW.out⟩
    case round =>
      rename World => wo
      obtain ⟨j, hj, rfl, hT, hE⟩ := hrel
      have HT := Lib.hid hT
      have HO := Lib.hid hE
      clear hT hE HT0 HEW
      have hpw := ext_size HO.out
      rw [← SP.out] at hpw
      have HPW := Lib.hid hpw
      clear hpw
      by_cases hlt : j < M.length
      · have hji : (j : Int) < (M.length : Int) := by omega
        have hj0 : (0 : Int) ≤ (j : Int) := by omega
        obtain ⟨r, hr⟩ : ∃ r, M[j]? = some r := ⟨_, List.getElem?_eq_getElem hlt⟩
        have HRJ := Lib.hid hr
        have HRM := Lib.hid (List.mem_of_getElem? hr)
        obtain ⟨b, B', d', hG, hb, hc, hri⟩ := rdQ_at (tD_parts TD0_40.out).2 hr
        subst hG
        have HRI := Lib.hid (rowE_ext hri HO.out)
        have q4 := (ext_cell HO.out _ _ hb).trans hc
        have l4 := ext_lt HO.out hb
        have hrl := IT0.out.len r HRM.out
        have hra := get_small (IT0.out.small r HRM.out) { data := #[97] }
        have hrb := get_small (IT0.out.small r HRM.out) { data := #[98] }
        have hla := getR_lo (IT0.out.ok r HRM.out).1 { data := #[97] }
        have hlb := getR_lo (IT0.out.ok r HRM.out).1 { data := #[98] }
        have hsum : IntKind.i64.wrap (getR r { data := #[97] } + getR r { data := #[98] }) = getR r { data := #[97] } + getR r { data := #[98] } := IntWalk.i64_in _ (by omega)
        obtain ⟨T, hTT⟩ : ∃ T, T = (M.take j).map (extD nm) := ⟨_, rfl⟩
        rw [← hTT] at HT
        have hTl : T.length ≤ 8 := by rw [hTT, List.length_map, List.length_take]; omega
        have DT := Lib.hid hTT
        clear hr hc hri hb hTT hra hrb hla hlb
        obtain ⟨wv, wr0, sl, t1, t2, t3, t4⟩ := HT.out
        obtain ⟨A8, c8, hrv⟩ := rowE_form t3.1
        subst hrv
        have hpp : ¬ (Value.slice A8 sl.length c8).ownBlock = some p := fun e => rowE_off t3.1 t1 (by decide) e
        have hfl : ∀ w', Upd (fun q => (Value.slice A8 sl.length c8).ownBlock = some q) wo w' → rowE elP w' (.slice B' r.length d') r := fun w' hU => rowE_off_upd HRI.out hU (fun q hf cur t hbt => by
          obtain ⟨_, cur', hc'⟩ := rowE_block t3.1 hf
          rw [hbt] at hc'
          simp only [Option.some.injEq, Obj.cells.injEq] at hc'
          rw [hc'.2.1]
          decide)
        have CGT := Lib.hid (show ∀ u w', Upd (fun q => (Value.slice A8 sl.length c8).ownBlock = some q) wo w' → Calls Try.prog 21 #[.slice B' r.length d', .string u] w' (fun e w'' => e = .returned (.int .i64 (getR r u)) ∧ Ext w' w'') from fun u w' hU => (get_any _ r u w' (hfl w' hU) (by omega)).mono fun e w'' h => ⟨h.1, h.2 ▸ ext_refl _⟩)
        have u0 : ∀ pw : UW (fun q => (Value.slice A8 sl.length c8).ownBlock = some q) wo, pw.val.cell? ⟨p, 1, none⟩ = some (.slice A8 sl.length c8) := uw_cell (block_cell t1 1) (block_lt t1) hpp
        have T1 := Lib.hid t1
        have T2 := Lib.hid t2
        have T3 := Lib.hid t3
        have T4 := Lib.hid t4
        have HPP := Lib.hid hpp
        have hll : sl.length ≤ 8 := by rw [t4.1]; omega
        clear t1 t2 t3 t4 hpp hfl
        go_wp2
        clear q4 l4
        refine wp_region_upd (fp := (fun q => (Value.slice A8 sl.length c8).ownBlock = some q)) [] [0, 1, 2, 3, 4, 5, 6, 7, 8] [(9, rowF elP 0 (extD nm r)), (10, fun v w' => ∃ s, oneF elQ 0 s v w' ∧ rowE elP w' (slV s) (extD nm r))] 11 (fun v w' => ∃ s, rowG elQ (fun g => p ≤ g) (sl ++ [s]) v w' ∧ rowE elP w' (slV s) (extD nm r)) [12, 13] [9, 10, 11] rfl (by kernel_rfl) (by kernel_rfl) (by kernel_rfl) (fun _ _ d _ _ h => by cases d <;> exact h) ?_
        refine wpPre_nil ?_
        repeat (refine wpU_step rfl (fun K hK => ?_); (try simp only [Oper.quietAt, Oper.quietUpon]); go_simp; first | (refine hK _ ?_; clear hK K) | (apply Exists.intro; refine ⟨fun pw => ?_, hK _ ?_⟩; (go_at_call 21; exact CGT.out _ _ pw.ok); clear hK K))
        refine wpU_nil ?_
        refine wpGen_step rfl rfl rowF_ext (fun w6 hE6 hS6 => ?_) (fun v1 => ?_)
        · simp only [runsAt]
          go_simp
          refine (put_any _ r nm _ w6 (rowE_ext HRI.out hE6) (by omega)).mono ?_
          rintro e w7 ⟨v', rfl, h3, h4⟩
          exact ⟨_, rfl, h4, rowF0 h3⟩
        refine wpGen_step rfl rfl (fun v a b hE ⟨s, h1, h2⟩ => ⟨s, oneF_ext _ _ _ hE h1, rowE_ext h2 hE⟩) (fun w6 hE6 hS6 => ?_) (fun v2 => ?_)
        · have hr6 : rowF elP 0 (extD nm r) v1 w6 := hS6 _ (List.mem_cons_self ..) (by kernel_rfl)
          obtain ⟨B9, d9, rfl⟩ := rowE_form hr6.1
          simp only [runsAt]
          go_simp
          exact ⟨ext_alloc (ext_refl _) _, B9, (extD nm r).length, d9, ⟨_, rfl, Nat.zero_le _, heap_alloc_new w6 _⟩, rowE_ext hr6.1 (ext_alloc (ext_refl _) _)⟩
        refine wpGen_nil ?_
        refine ⟨⟨_, rfl, rfl, fun v a b hE ⟨s, h1, h2⟩ => ⟨s, rowG_ext _ _ _ hE h1, rowE_ext h2 hE⟩⟩, fun w6 hE6 hS6 o ho => ?_, fun o ho v w6 hU6 hR6 => ?_⟩
        · cases ho
          obtain ⟨s, h1, h2⟩ : ∃ s, oneF elQ 0 s v2 w6 ∧ rowE elP w6 (slV s) (extD nm r) := hS6 _ (List.mem_cons_self ..)
          refine runs_append (sv := .slice A8 sl.length c8) (xv := v2) (.tmp 54) (.tmp 63) rfl rfl rfl ?_
          obtain ⟨v', w', hrun, hr, hg⟩ := append_ok tpQ 34 (fun g => p ≤ g) _ v2 sl [s] w6 (rowG_ext _ _ _ hE6 T3.out) (srcOf_one h1) (by simp; omega) (fun b hb => Nat.le_trans HPW.out (Nat.le_trans (ext_size hE6) hb))
          refine ⟨v', w', hrun, upd_grown hg, s, hr, rowE_off_upd h2 (upd_grown hg) (fun b hf cur t hbt => ?_)⟩
          obtain ⟨_, cur', hc'⟩ := rowE_block (rowE_ext T3.out.1 hE6) hf
          rw [hbt] at hc'
          simp only [Option.some.injEq, Obj.cells.injEq] at hc'
          rw [hc'.2.1]
          decide
        · cases ho
          obtain ⟨s, h1, h2⟩ := hR6
          obtain ⟨hT6, hU7⟩ := tDB_more5 T1.out T2.out T3.out T4.out h2 hU6 h1
          have HT5 := Lib.hid hT6
          have HX5 := Lib.hid (ext_upd HO.out hU7 (fun q hq => by rw [← SP.out]; exact hq.elim (fun e => T3.out.2 q e) (fun e => by omega)))
          have hb6 := (hU6.block p (block_lt T1.out) HPP.out).trans T1.out
          have qf := block_frozen hb6 1
          have qc : w6.cell? ⟨p, 1, none⟩ = some (.slice A8 sl.length c8) := block_cell hb6 1
          have lp := block_lt hb6
          obtain ⟨A5, c5, rfl⟩ := rowE_form h1.1
          obtain ⟨n5, hn5⟩ : ∃ n5, n5 = (sl ++ [s]).length := ⟨_, rfl⟩
          rw [← hn5] at HT5 HX5 ⊢
          clear hT6 hU7 h1 h2 hb6 hn5 u0 hU6
          refine wpSeq_of_list [12, 13] [_, _] _ _ rfl ?_
          go_wp2
          go_roundw
          case rel => exact ⟨j + 1, by omega, by go_num, by rw [List.take_add_one, HRJ.out, List.map_append, ← DT.out]; exact HT5.out, HX5.out⟩
          case measure => simp [intOf]; omega
      · obtain rfl : j = M.length := by omega
        rw [List.take_length, ← DQ.out] at HT
        have CG_47 := Lib.hid ((ext_block HO.out (block_lt CG_45.out)).trans CG_45.out)
        clear CG_45
        have CA0_48 := Lib.hid ((ext_block HO.out (block_lt CA0_41.out)).trans CA0_41.out)
        clear CA0_41
        have CM0_49 := Lib.hid ((ext_block HO.out (block_lt CM0_42.out)).trans CM0_42.out)
        clear CM0_42
        have OA0_50 := Lib.hid (own_ext OA0_39.out HO.out)
        clear OA0_39
        have OG_51 := Lib.hid (own_ext OG_44.out HO.out)
        clear OG_44
        have TD0_52 := Lib.hid (tD_ext TD0_40.out HO.out)
        clear TD0_40
        have HE_53 := Lib.hid (ext_trans HE_37.out HO.out)
        clear HE_37
        obtain ⟨uv, ur, su, u1, u2, u3, u4⟩ := HT.out
        obtain ⟨A7, c7, rfl⟩ := rowE_form u2
        obtain ⟨A8, c8, rfl⟩ := rowE_form u3.1
        have hsu := u4.1
        rw [hsu] at u1 u3
        have TDW_54 := Lib.hid ((show TD wo (.agg #[.slice A7 VV.length c7, .slice A8 Q.length c8]) VV Q from ⟨_, _, rfl, u2, su, u3.1, u4⟩))
        have CW_55 := Lib.hid (show wo.heap[p]? = some (.cells #[.slice A7 VV.length c7, .slice A8 Q.length c8] 36 (0, 0)) from u1)
        clear u1 u2 u3 u4 hsu
        have hVl : VV.length ≤ 10 := by rw [DVV.out]; have := setS_length (U ++ [nm]); rw [List.length_append] at this; simp at this; omega
        have HRV := Lib.hid (show RiseS VV by rw [DVV.out]; exact rise_setS _)
        have HQO := Lib.hid (show ∀ r ∈ Q, okR VV r by rw [DVV.out, DQ.out]; exact fun r hr => by obtain ⟨r0, h0, rfl⟩ := List.mem_map.1 hr; exact extD_ok nm (IT0.out.ok r0 h0))
        have HQR := Lib.hid (show ∀ r ∈ Q, r.length ≤ 1000000 by rw [DQ.out]; exact fun r hr => by obtain ⟨r0, h0, rfl⟩ := List.mem_map.1 hr; have h1 := putR_length r0 nm (getR r0 aS + getR r0 bS); have h2 := IT0.out.len r0 h0; exact Nat.le_trans h1 (by omega))
        have hQl : Q.length ≤ 1000000 := by have := HQL.out; omega
        have qCG0 : wo.cell? ⟨cg, 0, none⟩ = some (.slice A10 VV.length c10) := block_cell CG_47.out 0
        have qCG1 : wo.cell? ⟨cg, 1, none⟩ = some (.slice A11 Q.length c11) := block_cell CG_47.out 1
        have lCG := block_lt CG_47.out
        have qCW0 : wo.cell? ⟨p, 0, none⟩ = some (.slice A7 VV.length c7) := block_cell CW_55.out 0
        have qCW1 : wo.cell? ⟨p, 1, none⟩ = some (.slice A8 Q.length c8) := block_cell CW_55.out 1
        have lCW := block_lt CW_55.out
        go_wp2_with fail
        clear qCG0 qCG1 lCG qCW0 qCW1 lCW
        refine (is_yes _ _ VV Q _ (own_tab OG_51.out) TDW_54.out HRV.out HQO.out (by omega) hQl HQR.out).mono ?_
        rintro e w9 ⟨rfl, hE⟩
        have CG_56 := Lib.hid ((ext_block hE (block_lt CG_47.out)).trans CG_47.out)
        clear CG_47
        have CA0_57 := Lib.hid ((ext_block hE (block_lt CA0_48.out)).trans CA0_48.out)
        clear CA0_48
        have CM0_58 := Lib.hid ((ext_block hE (block_lt CM0_49.out)).trans CM0_49.out)
        clear CM0_49
        have OA0_59 := Lib.hid (own_ext OA0_50.out hE)
        clear OA0_50
        have OG_60 := Lib.hid (own_ext OG_51.out hE)
        clear OG_51
        have TD0_61 := Lib.hid (tD_ext TD0_52.out hE)
        clear TD0_52
        have HE_62 := Lib.hid (ext_trans HE_53.out hE)
        clear HE_53
        have TDW_63 := Lib.hid (tD_ext TDW_54.out hE)
        clear TDW_54
        have CW_64 := Lib.hid ((ext_block hE (block_lt CW_55.out)).trans CW_55.out)
        clear CW_55
        clear hE
        have qCA00 : w9.cell? ⟨ca0, 0, none⟩ = some (.slice P0 U.length i0) := block_cell CA0_57.out 0
        have qCA01 : w9.cell? ⟨ca0, 1, none⟩ = some (.slice Q0 M.length j0) := block_cell CA0_57.out 1
        have lCA0 := block_lt CA0_57.out
        have qCM00 : w9.cell? ⟨cm0, 0, none⟩ = some (.slice D0 U.length k0) := block_cell CM0_58.out 0
        have qCM01 : w9.cell? ⟨cm0, 1, none⟩ = some (.slice G0 M.length o0) := block_cell CM0_58.out 1
        have lCM0 := block_lt CM0_58.out
        go_wp2_with fail
        clear qCA00 qCA01 lCA0 qCM00 qCM01 lCM0
        refine (is_yes _ _ U M _ (own_tab OA0_59.out) TD0_61.out IT0.out.rise IT0.out.ok (by omega) (by omega) (fun r hr => by have := IT0.out.len r hr; omega)).mono ?_
        rintro e w10 ⟨rfl, hE⟩
        have CG_65 := Lib.hid ((ext_block hE (block_lt CG_56.out)).trans CG_56.out)
        clear CG_56
        have CA0_66 := Lib.hid ((ext_block hE (block_lt CA0_57.out)).trans CA0_57.out)
        clear CA0_57
        have CM0_67 := Lib.hid ((ext_block hE (block_lt CM0_58.out)).trans CM0_58.out)
        clear CM0_58
        have OA0_68 := Lib.hid (own_ext OA0_59.out hE)
        clear OA0_59
        have OG_69 := Lib.hid (own_ext OG_60.out hE)
        clear OG_60
        have TD0_70 := Lib.hid (tD_ext TD0_61.out hE)
        clear TD0_61
        have HE_71 := Lib.hid (ext_trans HE_62.out hE)
        clear HE_62
        have TDW_72 := Lib.hid (tD_ext TDW_63.out hE)
        clear TDW_63
        have CW_73 := Lib.hid ((ext_block hE (block_lt CW_64.out)).trans CW_64.out)
        clear CW_64
        clear hE
        go_wp2
        refine bodyPost_ret (results_tmp rfl _ _ _) rfl ?_
        exact ⟨rfl, HE_71.out⟩
end Go.Proofs.Ytniggdaakiofeaa
