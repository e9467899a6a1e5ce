/- EmitSums, walked. -/
import Derived.Test.YteccpinilpkmiaaEo
namespace Go.Proofs.Yteccpinilpkmiaa
open Go Go.RowKit Go.Sort Go.Shelf
set_option maxHeartbeats 800000

theorem small_sort {L : List ByteArray} (h : ∀ x ∈ L, x.size ≤ maxLen) : ∀ x ∈ sortS L, x.size ≤ maxLen := fun x hx => h x ((sortS_perm L).mem_iff.1 hx)
theorem mem_cnt {x : ByteArray} {L : List ByteArray} : x ∈ L ↔ 0 < cnt L x := by
  rw [cnt, List.countP_pos_iff]
  constructor
  · intro h; exact ⟨x, h, by simp⟩
  · rintro ⟨y, hy, he⟩
    simp at he
    exact he ▸ hy
theorem small_less {L M : List ByteArray} (h : ∀ x ∈ L, x.size ≤ maxLen) : ∀ x ∈ lessR L M, x.size ≤ maxLen := fun x hx => h x (mem_cnt.2 (by
  have := mem_cnt.1 hx
  rw [cnt_lessR] at this
  omega))
theorem cnt_sortS (L : List ByteArray) (s : ByteArray) : cnt (sortS L) s = cnt L s := cnt_perm (sortS_perm L) s
theorem sums_plain (L M fresh gone : List ByteArray) (h1 : fresh = lessR (sortS M) (sortS L)) (h2 : gone = lessR (sortS L) (sortS M)) : sortR (fresh ++ L) = sortR (gone ++ M) := by
  subst h1 h2
  refine sortR_congr (perm_of_cnt fun s => ?_)
  rw [cnt_append, cnt_append, cnt_lessR, cnt_lessR, cnt_sortS, cnt_sortS]
  omega
theorem less_apart (L M fresh gone : List ByteArray) (h1 : fresh = lessR (sortS M) (sortS L)) (h2 : gone = lessR (sortS L) (sortS M)) : (lessR fresh gone).length = fresh.length := by
  subst h1 h2
  refine len_of_cnt fun s => ?_
  rw [cnt_lessR, cnt_lessR, cnt_lessR, cnt_sortS, cnt_sortS]
  omega
theorem less_sorted (L M : List ByteArray) : lessR M L = lessR (sortS M) (sortS L) := by
  refine sortR_congr (perm_of_cnt fun s => ?_)
  rw [cnt_rms, cnt_rms, cnt_sortS, cnt_sortS]

theorem sums_law (v0 v1 : Value) (L M : List ByteArray) (W : World) (h0 : RdS W v0 L) (h1 : RdS W v1 M) (hl : L.length ≤ maxLen) (hm : M.length ≤ maxLen) (hs1 : ∀ x ∈ L, x.size ≤ maxLen) (hs2 : ∀ x ∈ M, x.size ≤ maxLen) :
    Calls Try.prog 3 #[v0, v1] W fun e w' => e = .returned (.bool true) ∧ Ext W w' := by
  have H0 := Lib.hid h0
  obtain ⟨A0, c0, rfl, -, -⟩ := h0
  have H1 := Lib.hid h1
  obtain ⟨A1, c1, rfl, -, -⟩ := h1
  have S1 := Lib.hid hs1
  have S2 := Lib.hid hs2
  have HFM := Lib.hid (show ∀ X ∈ [L, M], X.length ≤ maxLen by simp; exact ⟨hl, hm⟩)
  clear hs1 hs2 hl hm
  by_cases hf : fewB [L, M] = true
  · have hl : L.length ≤ 20 := few_of hf (by simp)
    have hm : M.length ≤ 20 := few_of hf (by simp)
    have HF := Lib.hid hf
    have S1b := Lib.hid (small_sort S1.out)
    have S2b := Lib.hid (small_sort S2.out)
    have HSL := Lib.hid (sortS_length L)
    have HSM := Lib.hid (sortS_length M)
    have HF1 := Lib.hid (lessR_len (sortS M) (sortS L))
    have HF2 := Lib.hid (lessR_len (sortS L) (sortS M))
    have SF1 := Lib.hid (small_less (M := sortS L) S2b.out)
    have SF2 := Lib.hid (small_less (M := sortS M) S1b.out)
    clear hf
    go_enter Try.func3, Try.ntmps3
    go_wp2_with fail
    refine (awake_any _).mono ?_
    rintro e w1 ⟨rfl, hE⟩
    have HE1 := Lib.hid (ext_trans (ext_refl _) hE)
    clear hE
    go_wp2_with fail
    refine (few_any _ [L, M] _ (two_rows (rdS_ext H0.out HE1.out) (rdS_ext H1.out HE1.out)) (by simp [maxLen]) HFM.out).mono ?_
    rintro e w2 ⟨rfl, rfl⟩
    rw [HF.out]
    have hE : Ext w1 (w1.alloc (.cells #[.slice A0 L.length c0, .slice A1 M.length c1] 22)) := ext_alloc (ext_refl _) _
    have HE2 := Lib.hid (ext_trans HE1.out hE)
    clear hE
    go_wp2_with fail
    refine (new_em kI knows_I W _ HE2.out).mono ?_
    rintro e w3 ⟨pEI, rfl, hp, hem, hE⟩
    have HE3 := Lib.hid (ext_trans HE2.out hE)
    have EI := Lib.hid hem
    clear hp hem hE
    go_wp2_with fail
    refine (new_em kD knows_D W _ HE3.out).mono ?_
    rintro e w4 ⟨pED, rfl, hp, hem, hE⟩
    have neEDEI := Lib.hid (show pED ≠ pEI by have := emOf_lt EI.out; omega)
    have HE4 := Lib.hid (ext_trans HE3.out hE)
    have EI_4 := Lib.hid (emOf_ext EI.out hE)
    have ED := Lib.hid hem
    clear hp hem hE
    go_wp2_with fail
    refine (next_em pEI kI _ [] L W _ EI_4.out HE4.out (rdS_ext H0.out HE4.out) (by simp) (by omega) nil_small S1.out).mono ?_
    rintro e w5 ⟨lvw5, rfl, hN⟩
    have HE5 := Lib.hid hN.ext
    obtain ⟨u5, hat5⟩ := hN.at0
    have ED_5 := Lib.hid (emOf_upd ED.out hN.upd hat5 neEDEI.out)
    clear hat5
    have EI_5 := Lib.hid hN.em
    have hrow := hN.row.1
    rw [told_I] at hrow
    obtain ⟨Aw5, cw5, rfl⟩ := rowE_form hrow
    clear hN hrow
    go_wp2_with fail
    refine (next_em pED kD _ [] L W _ ED_5.out HE5.out (rdS_ext H0.out HE5.out) (by simp) (by omega) nil_small S1.out).mono ?_
    rintro e w6 ⟨lvw6, rfl, hN⟩
    have HE6 := Lib.hid hN.ext
    obtain ⟨u6, hat6⟩ := hN.at0
    have EI_6 := Lib.hid (emOf_upd EI_5.out hN.upd hat6 (Ne.symm neEDEI.out))
    clear hat6
    have ED_6 := Lib.hid hN.em
    have hrow := hN.row.1
    rw [told_D] at hrow
    obtain ⟨Aw6, cw6, rfl⟩ := rowE_form hrow
    clear hN hrow
    go_wp2_with fail
    refine (next_em pEI kI _ (sortS L) M W _ EI_6.out HE6.out (rdS_ext H1.out HE6.out) (by rw [HSL.out]; omega) (by omega) S1b.out S2.out).mono ?_
    rintro e w7 ⟨lvw7, rfl, hN⟩
    have HE7 := Lib.hid hN.ext
    obtain ⟨u7, hat7⟩ := hN.at0
    have ED_7 := Lib.hid (emOf_upd ED_6.out hN.upd hat7 neEDEI.out)
    clear hat7
    have EI_7 := Lib.hid hN.em
    have hrow := hN.row.1
    rw [told_I] at hrow
    obtain ⟨Aw7, cw7, rfl⟩ := rowE_form hrow
    have RF := Lib.hid hrow
    clear hN hrow
    go_wp2_with fail
    refine (next_em pED kD _ (sortS L) M W _ ED_7.out HE7.out (rdS_ext H1.out HE7.out) (by rw [HSL.out]; omega) (by omega) S1b.out S2.out).mono ?_
    rintro e w8 ⟨lvw8, rfl, hN⟩
    have HE8 := Lib.hid hN.ext
    obtain ⟨u8, hat8⟩ := hN.at0
    have RF_8 := Lib.hid (row_next RF.out hN.upd hat8)
    have EI_8 := Lib.hid (emOf_upd EI_7.out hN.upd hat8 (Ne.symm neEDEI.out))
    clear hat8
    have ED_8 := Lib.hid hN.em
    have hrow := hN.row.1
    rw [told_D] at hrow
    obtain ⟨Aw8, cw8, rfl⟩ := rowE_form hrow
    have RG := Lib.hid hrow
    clear hN hrow
    obtain ⟨fresh, hfr⟩ : ∃ fresh, fresh = lessR (sortS M) (sortS L) := ⟨_, rfl⟩
    obtain ⟨gone, hgn⟩ : ∃ gone, gone = lessR (sortS L) (sortS M) := ⟨_, rfl⟩
    rw [← hfr] at HF1 RF_8 SF1 ⊢
    rw [← hgn] at HF2 RG SF2 ⊢
    have HFR := Lib.hid hfr
    have HGN := Lib.hid hgn
    clear hfr hgn
    have hf1 : fresh.length ≤ 20 := by have := HF1.out; rw [HSM.out] at this; omega
    have hf2 : gone.length ≤ 20 := by have := HF2.out; rw [HSL.out] at this; omega
    go_wp2_with (at_builtin; refine halt_here ?_)
    refine go_on ?_
    have hE : Ext w8 (w8.alloc (.cells #[] 9)) := ext_alloc (ext_refl _) _
    have HE9 := Lib.hid (ext_trans HE8.out hE)
    have RF_9 := Lib.hid (rowE_ext RF_8.out hE)
    have RG_9 := Lib.hid (rowE_ext RG.out hE)
    have EI_9 := Lib.hid (emOf_ext EI_8.out hE)
    have ED_9 := Lib.hid (emOf_ext ED_8.out hE)
    clear hE
    refine wpList_append rfl (.tmp 43) (.tmp 44) rfl _ _ rfl rfl (fun v' w' => Ext (w8.alloc (.cells #[] 9)) w' ∧ rowF elS w8.heap.size fresh v' w') (append_copy tpS _ w8.heap.size _ _ fresh _ ⟨w8.heap.size, rfl, Nat.le_refl _, heap_alloc_new w8 _⟩ (srcOf_row RF_9.out) (by omega)) ?_
    rintro vw9 w9 ⟨hE, hr⟩
    have HE10 := Lib.hid (ext_trans HE9.out hE)
    have RF_10 := Lib.hid (rowE_ext RF_9.out hE)
    have RG_10 := Lib.hid (rowE_ext RG_9.out hE)
    have EI_10 := Lib.hid (emOf_ext EI_9.out hE)
    have ED_10 := Lib.hid (emOf_ext ED_9.out hE)
    have hEEw9 := Lib.hid hE
    have RXw9 := Lib.hid hr
    clear hE hr
    obtain ⟨Xw9, xw9, hxw9⟩ := rowE_form RXw9.out.1
    subst hxw9
    go_wp2_with (at_builtin; refine halt_here ?_)
    refine go_on ?_
    have HSZ := Lib.hid (show w8.heap.size ≤ w9.heap.size from ext_size (ext_trans (ext_alloc (ext_refl w8) (.cells #[] 9)) hEEw9.out))
    refine wpList_append rfl (.tmp 45) (.tmp 46) rfl _ _ rfl rfl (fun v' w' => rowF elS w8.heap.size (fresh ++ L) v' w' ∧ w9.grownBy w' (Value.slice Xw9 fresh.length xw9).ownBlock) (append_onto tpS _ w8.heap.size (.slice Xw9 fresh.length xw9) _ fresh L w9 RXw9.out (rdS_src (rdS_ext H0.out HE10.out)) (by omega) (by have := HSZ.out; exact this)) ?_
    rintro vw10 w10 ⟨hr, hgb⟩
    obtain ⟨Jfresh, hJfresh⟩ : ∃ Jfresh, Jfresh = fresh ++ L := ⟨_, rfl⟩
    rw [← hJfresh] at hr
    have hlJfresh : Jfresh.length ≤ 40 := by rw [hJfresh, List.length_append]; omega
    have HJfresh := Lib.hid hJfresh
    clear hJfresh
    obtain ⟨Xw10, xw10, hxw10⟩ := rowE_form hr.1
    subst hxw10
    have hE : Ext w8 w10 := ext_grown (ext_trans (ext_alloc (ext_refl w8) (.cells #[] 9)) hEEw9.out) hgb (fun g hg => RXw9.out.2 g hg) (Nat.le_refl _)
    have HE11 := Lib.hid (ext_trans HE8.out hE)
    have RF_11 := Lib.hid (rowE_ext RF_8.out hE)
    have RG_11 := Lib.hid (rowE_ext RG.out hE)
    have EI_11 := Lib.hid (emOf_ext EI_8.out hE)
    have ED_11 := Lib.hid (emOf_ext ED_8.out hE)
    have RYw10 := Lib.hid hr.1
    clear hE hr hgb
    go_wp2_with fail
    refine (refsort_row _ Jfresh _ (rdS_row RYw10.out) (by omega)).mono ?_
    rintro e w11 ⟨Aw11, cw11, rfl, hw11, hE⟩
    have HE12 := Lib.hid (ext_trans HE11.out hE)
    have RF_12 := Lib.hid (rowE_ext RF_11.out hE)
    have RG_12 := Lib.hid (rowE_ext RG_11.out hE)
    have RYw10_12 := Lib.hid (rowE_ext RYw10.out hE)
    have EI_12 := Lib.hid (emOf_ext EI_11.out hE)
    have ED_12 := Lib.hid (emOf_ext ED_11.out hE)
    have RSfresh := Lib.hid hw11
    clear hw11 hE
    go_wp2_with (at_builtin; refine halt_here ?_)
    refine go_on ?_
    have hE : Ext w11 (w11.alloc (.cells #[] 9)) := ext_alloc (ext_refl _) _
    have HE13 := Lib.hid (ext_trans HE12.out hE)
    have RF_13 := Lib.hid (rowE_ext RF_12.out hE)
    have RG_13 := Lib.hid (rowE_ext RG_12.out hE)
    have RSfresh_13 := Lib.hid (rowE_ext RSfresh.out hE)
    have EI_13 := Lib.hid (emOf_ext EI_12.out hE)
    have ED_13 := Lib.hid (emOf_ext ED_12.out hE)
    clear hE
    refine wpList_append rfl (.tmp 49) (.tmp 50) rfl _ _ rfl rfl (fun v' w' => Ext (w11.alloc (.cells #[] 9)) w' ∧ rowF elS w11.heap.size gone v' w') (append_copy tpS _ w11.heap.size _ _ gone _ ⟨w11.heap.size, rfl, Nat.le_refl _, heap_alloc_new w11 _⟩ (srcOf_row RG_13.out) (by omega)) ?_
    rintro vw12 w12 ⟨hE, hr⟩
    have HE14 := Lib.hid (ext_trans HE13.out hE)
    have RF_14 := Lib.hid (rowE_ext RF_13.out hE)
    have RG_14 := Lib.hid (rowE_ext RG_13.out hE)
    have RSfresh_14 := Lib.hid (rowE_ext RSfresh_13.out hE)
    have EI_14 := Lib.hid (emOf_ext EI_13.out hE)
    have ED_14 := Lib.hid (emOf_ext ED_13.out hE)
    have hEEw12 := Lib.hid hE
    have RXw12 := Lib.hid hr
    clear hE hr
    obtain ⟨Xw12, xw12, hxw12⟩ := rowE_form RXw12.out.1
    subst hxw12
    go_wp2_with (at_builtin; refine halt_here ?_)
    refine go_on ?_
    have HSZ := Lib.hid (show w11.heap.size ≤ w12.heap.size from ext_size (ext_trans (ext_alloc (ext_refl w11) (.cells #[] 9)) hEEw12.out))
    refine wpList_append rfl (.tmp 51) (.tmp 52) rfl _ _ rfl rfl (fun v' w' => rowF elS w11.heap.size (gone ++ M) v' w' ∧ w12.grownBy w' (Value.slice Xw12 gone.length xw12).ownBlock) (append_onto tpS _ w11.heap.size (.slice Xw12 gone.length xw12) _ gone M w12 RXw12.out (rdS_src (rdS_ext H1.out HE14.out)) (by omega) (by have := HSZ.out; exact this)) ?_
    rintro vw13 w13 ⟨hr, hgb⟩
    obtain ⟨Jgone, hJgone⟩ : ∃ Jgone, Jgone = gone ++ M := ⟨_, rfl⟩
    rw [← hJgone] at hr
    have hlJgone : Jgone.length ≤ 40 := by rw [hJgone, List.length_append]; omega
    have HJgone := Lib.hid hJgone
    clear hJgone
    obtain ⟨Xw13, xw13, hxw13⟩ := rowE_form hr.1
    subst hxw13
    have hE : Ext w11 w13 := ext_grown (ext_trans (ext_alloc (ext_refl w11) (.cells #[] 9)) hEEw12.out) hgb (fun g hg => RXw12.out.2 g hg) (Nat.le_refl _)
    have HE15 := Lib.hid (ext_trans HE12.out hE)
    have RF_15 := Lib.hid (rowE_ext RF_12.out hE)
    have RG_15 := Lib.hid (rowE_ext RG_12.out hE)
    have RSfresh_15 := Lib.hid (rowE_ext RSfresh.out hE)
    have EI_15 := Lib.hid (emOf_ext EI_12.out hE)
    have ED_15 := Lib.hid (emOf_ext ED_12.out hE)
    have RYw13 := Lib.hid hr.1
    clear hE hr hgb
    go_wp2_with fail
    refine (refsort_row _ Jgone _ (rdS_row RYw13.out) (by omega)).mono ?_
    rintro e w14 ⟨Aw14, cw14, rfl, hw14, hE⟩
    have HE16 := Lib.hid (ext_trans HE15.out hE)
    have RF_16 := Lib.hid (rowE_ext RF_15.out hE)
    have RG_16 := Lib.hid (rowE_ext RG_15.out hE)
    have RSfresh_16 := Lib.hid (rowE_ext RSfresh_15.out hE)
    have RYw13_16 := Lib.hid (rowE_ext RYw13.out hE)
    have EI_16 := Lib.hid (emOf_ext EI_15.out hE)
    have ED_16 := Lib.hid (emOf_ext ED_15.out hE)
    have RSgone := Lib.hid hw14
    clear hw14 hE
    have HEQ := Lib.hid (show sortR Jfresh = sortR Jgone by rw [HJfresh.out, HJgone.out]; exact sums_plain L M fresh gone HFR.out HGN.out)
    go_wp2_with fail
    have HLN := Lib.hid (Nat.le_trans (Nat.le_of_eq (sortR_len Jfresh)) hlJfresh)
    refine (same_row _ _ (sortR Jfresh) _ RSfresh_16.out (by rw [HEQ.out]; exact RSgone.out) (by have := HLN.out; omega)).mono ?_
    rintro e w15 ⟨rfl, hE⟩
    have HE17 := Lib.hid (ext_trans HE16.out hE)
    have RF_17 := Lib.hid (rowE_ext RF_16.out hE)
    have RG_17 := Lib.hid (rowE_ext RG_16.out hE)
    have RSfresh_17 := Lib.hid (rowE_ext RSfresh_16.out hE)
    have RSgone_17 := Lib.hid (rowE_ext RSgone.out hE)
    have EI_17 := Lib.hid (emOf_ext EI_16.out hE)
    have ED_17 := Lib.hid (emOf_ext ED_16.out hE)
    clear hE
    go_wp2_with fail
    refine (less_row _ _ fresh gone (lessR fresh gone) _ (rdS_row RF_17.out) (rdS_row RG_17.out) (by omega) (by omega) SF1.out SF2.out rfl).mono ?_
    rintro e w16 ⟨Aw16, cw16, rfl, hw16, hE⟩
    have HE18 := Lib.hid (ext_trans HE17.out hE)
    have RF_18 := Lib.hid (rowE_ext RF_17.out hE)
    have RG_18 := Lib.hid (rowE_ext RG_17.out hE)
    have RSfresh_18 := Lib.hid (rowE_ext RSfresh_17.out hE)
    have RSgone_18 := Lib.hid (rowE_ext RSgone_17.out hE)
    have EI_18 := Lib.hid (emOf_ext EI_17.out hE)
    have ED_18 := Lib.hid (emOf_ext ED_17.out hE)
    have RL := Lib.hid hw16
    clear hw16 hE
    have hll : (lessR fresh gone).length = fresh.length := less_apart L M fresh gone HFR.out HGN.out
    rw [hll]
    clear hll
    go_wp2_with fail
    refine (less_row _ _ M L fresh _ (rdS_ext H1.out HE18.out) (rdS_ext H0.out HE18.out) (by omega) (by omega) S2.out S1.out ((less_sorted L M).trans HFR.out.symm)).mono ?_
    rintro e w17 ⟨Aw17, cw17, rfl, hw17, hE⟩
    have HE19 := Lib.hid (ext_trans HE18.out hE)
    have RF_19 := Lib.hid (rowE_ext RF_18.out hE)
    have RG_19 := Lib.hid (rowE_ext RG_18.out hE)
    have RSfresh_19 := Lib.hid (rowE_ext RSfresh_18.out hE)
    have RSgone_19 := Lib.hid (rowE_ext RSgone_18.out hE)
    have RL_19 := Lib.hid (rowE_ext RL.out hE)
    have EI_19 := Lib.hid (emOf_ext EI_18.out hE)
    have ED_19 := Lib.hid (emOf_ext ED_18.out hE)
    have RM := Lib.hid hw17
    clear hw17 hE
    go_wp2_with fail
    refine (same_row _ _ fresh _ RM.out RF_19.out (by omega)).mono ?_
    rintro e w18 ⟨rfl, hE⟩
    have HE20 := Lib.hid (ext_trans HE19.out hE)
    have RF_20 := Lib.hid (rowE_ext RF_19.out hE)
    have RG_20 := Lib.hid (rowE_ext RG_19.out hE)
    have RSfresh_20 := Lib.hid (rowE_ext RSfresh_19.out hE)
    have RSgone_20 := Lib.hid (rowE_ext RSgone_19.out hE)
    have RL_20 := Lib.hid (rowE_ext RL_19.out hE)
    have RM_20 := Lib.hid (rowE_ext RM.out hE)
    have EI_20 := Lib.hid (emOf_ext EI_19.out hE)
    have ED_20 := Lib.hid (emOf_ext ED_19.out hE)
    clear hE
    go_wp2
    refine bodyPost_ret (results_tmp rfl _ _ _) rfl ?_
    exact ⟨rfl, HE20.out⟩
  · have HF := Lib.hid (Bool.eq_false_iff.2 hf)
    clear hf
    go_enter Try.func3, Try.ntmps3
    go_wp2_with fail
    refine (awake_any _).mono ?_
    rintro e w1 ⟨rfl, hE⟩
    have HE1 := Lib.hid (ext_trans (ext_refl _) hE)
    clear hE
    go_wp2_with fail
    refine (few_any _ [L, M] _ (two_rows (rdS_ext H0.out HE1.out) (rdS_ext H1.out HE1.out)) (by simp [maxLen]) HFM.out).mono ?_
    rintro e w2 ⟨rfl, rfl⟩
    rw [HF.out]
    have hE : Ext w1 (w1.alloc (.cells #[.slice A0 L.length c0, .slice A1 M.length c1] 22)) := ext_alloc (ext_refl _) _
    have HE2 := Lib.hid (ext_trans HE1.out hE)
    clear hE
    go_wp2_with fail
    refine (awake_any _).mono ?_
    rintro e w3 ⟨rfl, hE⟩
    have HE3 := Lib.hid (ext_trans HE2.out hE)
    clear hE
    go_wp2
    refine bodyPost_ret (results_tmp rfl _ _ _) rfl ?_
    exact ⟨rfl, HE3.out⟩
end Go.Proofs.Yteccpinilpkmiaa
