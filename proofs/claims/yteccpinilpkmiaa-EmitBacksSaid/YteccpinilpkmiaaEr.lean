/- EmitTwice, walked. -/
import Derived.Test.YteccpinilpkmiaaEq
namespace Go.Proofs.Yteccpinilpkmiaa
open Go Go.RowKit Go.Sort Go.Shelf
set_option maxHeartbeats 800000

def trn (L : List ByteArray) (t k : Nat) : ByteArray := L.getD ((k + t) % L.length) ⟨#[]⟩
def turnedL (L : List ByteArray) (t j : Nat) : List ByteArray := (List.range j).map (trn L t)
theorem turnedL_len (L : List ByteArray) (t j : Nat) : (turnedL L t j).length = j := by simp [turnedL]
theorem turnedL_succ (L : List ByteArray) (t j : Nat) : turnedL L t (j + 1) = turnedL L t j ++ [trn L t j] := by simp [turnedL, List.range_succ]
theorem trn_at {L : List ByteArray} {t k : Nat} (h : 0 < L.length) : L[(k + t) % L.length]? = some (trn L t k) := by
  have := Nat.mod_lt (k + t) h
  rw [trn, List.getD, List.getElem?_eq_getElem this]
  rfl
theorem turnedL_eq (L : List ByteArray) (t : Nat) : turnedL L t L.length = L.drop (t % L.length) ++ L.take (t % L.length) := by
  rcases Nat.eq_zero_or_pos L.length with h | h
  · have : L = [] := List.eq_nil_of_length_eq_zero h
    subst this
    simp [turnedL]
  have ht := Nat.mod_lt t h
  refine List.ext_getElem? fun i => ?_
  rw [turnedL, List.getElem?_map]
  by_cases hi : i < L.length
  · rw [List.getElem?_range hi, Option.map_some, ← trn_at h]
    by_cases hs : i + t % L.length < L.length
    · rw [List.getElem?_append_left (by rw [List.length_drop]; omega), List.getElem?_drop]
      congr 1
      rw [Nat.add_mod, Nat.mod_eq_of_lt hi, Nat.mod_eq_of_lt hs, Nat.add_comm]
    · rw [List.getElem?_append_right (by rw [List.length_drop]; omega), List.length_drop, List.getElem?_take, if_pos (by omega)]
      congr 1
      rw [Nat.add_mod, Nat.mod_eq_of_lt hi, Nat.mod_eq_sub_mod (by omega), Nat.mod_eq_of_lt (by omega)]
      omega
  · rw [List.getElem?_eq_none (by simpa using hi), Option.map_none, List.getElem?_eq_none (by simp; omega)]
theorem turned_perm (L : List ByteArray) (t : Nat) : (turnedL L t L.length).Perm L := by
  rw [turnedL_eq]
  exact List.perm_append_comm.trans (by rw [List.take_append_drop])
theorem turned_small {L : List ByteArray} {t : Nat} (h : ∀ x ∈ L, x.size ≤ maxLen) : ∀ x ∈ turnedL L t L.length, x.size ≤ maxLen := fun x hx => h x ((turned_perm L t).mem_iff.1 hx)
theorem less_same {A B : List ByteArray} (h : A.Perm B) : lessR A B = [] := nil_of_cnt fun s => by rw [cnt_lessR, cnt_perm h]; omega
theorem sortS_perms {A B : List ByteArray} (h : A.Perm B) : sortS A = sortS B := by rw [sortS_eq, sortS_eq, sortR_congr h]
theorem sortR_sortS (L : List ByteArray) : sortR (sortS L) = sortR L := sortR_congr (sortS_perm L)

theorem twice_law (v0 : Value) (t : Nat) (L : List ByteArray) (W : World) (h0 : RdS W v0 L) (hl : L.length ≤ maxLen) (hs1 : ∀ x ∈ L, x.size ≤ maxLen) (ht : t ≤ 255) :
    Calls Try.prog 5 #[v0, .int .u8 (t : Int)] W fun e w' => e = .returned (.bool true) ∧ Ext W w' := by
  have H0 := Lib.hid h0
  obtain ⟨A0, c0, rfl, -, hA0⟩ := h0
  have HA := Lib.hid hA0
  have S1 := Lib.hid hs1
  have HFM := Lib.hid (show ∀ X ∈ [L], X.length ≤ maxLen by simp; exact hl)
  clear hs1 hl hA0
  by_cases hf : fewB [L] = true
  · have hl : L.length ≤ 20 := few_of hf (by simp)
    have HF := Lib.hid hf
    have S1b := Lib.hid (small_sort S1.out)
    have ST := Lib.hid (turned_small (t := t) S1.out)
    have HSL := Lib.hid (sortS_length L)
    have HRL := Lib.hid (sortR_len L)
    have PT := Lib.hid (turned_perm L t)
    have ht0 : (0 : Int) ≤ (t : Int) := by omega
    have ht1 : (t : Int) ≤ 255 := by omega
    clear hf
    go_enter Try.func5, Try.ntmps5
    go_wp2_with fail
    refine (awake_any _).mono ?_
    rintro e w1 ⟨rfl, hE⟩
    have HE1 := Lib.hid (ext_trans (ext_refl _) hE)
    clear hE
    go_wp2_with fail
    refine (few_any _ [L] _ (one_rows (rdS_ext H0.out HE1.out)) (by simp [maxLen]) HFM.out).mono ?_
    rintro e w2 ⟨rfl, rfl⟩
    rw [HF.out]
    have hE : Ext w1 (w1.alloc (.cells #[.slice A0 L.length c0] 22)) := ext_alloc (ext_refl _) _
    have HE2 := Lib.hid (ext_trans HE1.out hE)
    clear hE
    go_wp2
    go_loopw [28, 5] (fun x y wr => ∃ (j : Nat) (B : Option Addr) (d : Nat) (T : List ByteArray), j ≤ L.length ∧ x = .int .i64 j ∧ T = turnedL L t j ∧ y = .slice B T.length d ∧ rowF elS W.heap.size T (.slice B T.length d) wr ∧ Ext W wr) (fun x _ _ => L.length - (intOf x).toNat)
    case atStart => exact ⟨0, none, 0, [], by omega, rfl, rfl, rfl, rowF_nil _ _, HE2.out⟩
    case round =>
      rename World => wo
      obtain ⟨j, B, d, T, hj, rfl, hT, rfl, hrow, hE⟩ := hrel
      have HE := Lib.hid hE
      have HROW := Lib.hid hrow
      have HTE := Lib.hid hT
      have hTl : T.length ≤ 20 := by rw [hT, turnedL_len]; omega
      clear hE hrow hT
      by_cases hlt : j < L.length
      · have hji : (j : Int) < (L.length : Int) := by omega
        have hj0 : (0 : Int) ≤ (j : Int) := by omega
        have hn0 : (0 : Int) < (L.length : Int) := by omega
        have hn1 : (L.length : Int) ≤ 20 := by omega
        have hx : L[(j + t) % L.length]? = some (trn L t j) := trn_at (by omega)
        obtain ⟨b, off, hA0, hb, hca⟩ := HA.out (fun e => by rw [e] at hx; simp at hx)
        subst hA0
        have q0 := (ext_cell HE.out _ _ hb).trans (hca _ _ hx)
        have lb := ext_lt HE.out hb
        clear hx hca
        have hmod : ((j : Int) + (t : Int)) % (L.length : Int) = (((j + t) % L.length : Nat) : Int) := by rw [Int.natCast_emod]; push_cast; rfl
        have hml : (j + t) % L.length < L.length := Nat.mod_lt _ (by omega)
        have hml' : (((j + t) % L.length : Nat) : Int) < (L.length : Int) := by omega
        have hml0 : (0 : Int) ≤ (((j + t) % L.length : Nat) : Int) := by omega
        obtain ⟨r, hr⟩ : ∃ r, r = (j + t) % L.length := ⟨_, rfl⟩
        rw [← hr] at q0 hmod hml hml' hml0
        have HR := Lib.hid hr
        clear hr
        go_wp2_with (at_builtin; refine halt_here ?_)
        refine go_on ?_
        refine wpList_append rfl (.tmp 31) (.tmp 42) rfl _ _ rfl rfl (fun v' w' => rowF elS W.heap.size (T ++ [trn L t j]) v' w' ∧ (wo.alloc (.cells #[.string (trn L t j)] 9)).grownBy w' (Value.slice B T.length d).ownBlock) (append_onto tpS _ W.heap.size (.slice B T.length d) _ T [trn L t j] _ (rowF_ext _ _ _ (ext_alloc (ext_refl _) _) HROW.out) (srcOf_one ⟨wo.heap.size, rfl, Nat.le_refl _, heap_alloc_new wo _⟩) (by simp; omega) (by rw [World.size_alloc]; have := ext_size HE.out; omega)) ?_
        rintro v7 w7 ⟨hR7, hg7⟩
        obtain ⟨O7, c7, hv7⟩ := rowE_form hR7.1
        subst hv7
        have HR7 := Lib.hid hR7
        have HE7 : Hid (Ext W w7) := Lib.hid (ext_grown (ext_trans HE.out (ext_alloc (ext_refl _) _)) hg7 HROW.out.2 (Nat.le_refl _))
        clear hR7 hg7
        go_wp2
        go_roundw
        case rel => exact ⟨j + 1, O7, c7, T ++ [trn L t j], by omega, by go_num, by rw [turnedL_succ, HTE.out], by rw [List.length_append]; rfl, HR7.out, HE7.out⟩
        case measure => simp [intOf]; omega
      · obtain rfl : j = L.length := by omega
        have PT2 := Lib.hid (show T.Perm L by rw [HTE.out]; exact PT.out)
        have ST2 := Lib.hid (show ∀ x ∈ T, x.size ≤ maxLen by rw [HTE.out]; exact ST.out)
        have HTL := Lib.hid PT2.out.length_eq
        have ROWT := Lib.hid HROW.out.1
        go_wp2_with fail
        refine (new_em kI knows_I W _ HE.out).mono ?_
        rintro e w3 ⟨pEI, rfl, hp, hem, hE⟩
        have HE3 := Lib.hid (ext_trans HE.out hE)
        have ROWT_3 := Lib.hid (rowE_ext ROWT.out hE)
        have EI := Lib.hid hem
        clear hp hem hE
        go_wp2_with fail
        refine (new_em kD knows_D W _ HE3.out).mono ?_
        rintro e w4 ⟨pED, rfl, hp, hem, hE⟩
        have neEDEI := Lib.hid (show pED ≠ pEI by have := emOf_lt EI.out; omega)
        have HE4 := Lib.hid (ext_trans HE3.out hE)
        have ROWT_4 := Lib.hid (rowE_ext ROWT_3.out hE)
        have EI_4 := Lib.hid (emOf_ext EI.out hE)
        have ED := Lib.hid hem
        clear hp hem hE
        go_wp2_with fail
        refine (new_em kR knows_R W _ HE4.out).mono ?_
        rintro e w5 ⟨pER, rfl, hp, hem, hE⟩
        have neEREI := Lib.hid (show pER ≠ pEI by have := emOf_lt EI_4.out; omega)
        have neERED := Lib.hid (show pER ≠ pED by have := emOf_lt ED.out; omega)
        have HE5 := Lib.hid (ext_trans HE4.out hE)
        have ROWT_5 := Lib.hid (rowE_ext ROWT_4.out hE)
        have EI_5 := Lib.hid (emOf_ext EI_4.out hE)
        have ED_5 := Lib.hid (emOf_ext ED.out hE)
        have ER := Lib.hid hem
        clear hp hem hE
        go_wp2_with fail
        refine (next_em pEI kI _ [] L W _ EI_5.out HE5.out (rdS_ext H0.out HE5.out) (by simp) (by omega) nil_small S1.out).mono ?_
        rintro e w6 ⟨lvw6, rfl, hN⟩
        have HE6 := Lib.hid hN.ext
        obtain ⟨u6, hat6⟩ := hN.at0
        have ROWT_6 := Lib.hid (row_next ROWT_5.out hN.upd hat6)
        have ED_6 := Lib.hid (emOf_upd ED_5.out hN.upd hat6 neEDEI.out)
        have ER_6 := Lib.hid (emOf_upd ER.out hN.upd hat6 neEREI.out)
        clear hat6
        have EI_6 := Lib.hid hN.em
        have hrow := hN.row.1
        rw [told_I, lessR_none, sortR_sortS] at hrow
        obtain ⟨Aw6, cw6, rfl⟩ := rowE_form hrow
        have RF := Lib.hid hrow
        clear hN hrow
        go_wp2_with fail
        refine (next_em pED kD _ [] L W _ ED_6.out HE6.out (rdS_ext H0.out HE6.out) (by simp) (by omega) nil_small S1.out).mono ?_
        rintro e w7 ⟨lvw7, rfl, hN⟩
        have HE7 := Lib.hid hN.ext
        obtain ⟨u7, hat7⟩ := hN.at0
        have ROWT_7 := Lib.hid (row_next ROWT_6.out hN.upd hat7)
        have RF_7 := Lib.hid (row_next RF.out hN.upd hat7)
        have EI_7 := Lib.hid (emOf_upd EI_6.out hN.upd hat7 (Ne.symm neEDEI.out))
        have ER_7 := Lib.hid (emOf_upd ER_6.out hN.upd hat7 neERED.out)
        clear hat7
        have ED_7 := Lib.hid hN.em
        have hrow := hN.row.1
        rw [told_D, lessR_nil] at hrow
        obtain ⟨Aw7, cw7, rfl⟩ := rowE_form hrow
        clear hN hrow
        go_wp2_with fail
        refine (next_em pER kR _ [] L W _ ER_7.out HE7.out (rdS_ext H0.out HE7.out) (by simp) (by omega) nil_small S1.out).mono ?_
        rintro e w8 ⟨lvw8, rfl, hN⟩
        have HE8 := Lib.hid hN.ext
        obtain ⟨u8, hat8⟩ := hN.at0
        have ROWT_8 := Lib.hid (row_next ROWT_7.out hN.upd hat8)
        have RF_8 := Lib.hid (row_next RF_7.out hN.upd hat8)
        have EI_8 := Lib.hid (emOf_upd EI_7.out hN.upd hat8 (Ne.symm neEREI.out))
        have ED_8 := Lib.hid (emOf_upd ED_7.out hN.upd hat8 (Ne.symm neERED.out))
        clear hat8
        have ER_8 := Lib.hid hN.em
        have hrow := hN.row.1
        rw [told_R, sortS_eq] at hrow
        obtain ⟨Aw8, cw8, rfl⟩ := rowE_form hrow
        have RA := Lib.hid hrow
        clear hN hrow
        go_wp2_with fail
        refine (refsort_row _ L _ (rdS_ext H0.out HE8.out) (by omega)).mono ?_
        rintro e w9 ⟨Aw9, cw9, rfl, hw9, hE⟩
        have HE9 := Lib.hid (ext_trans HE8.out hE)
        have ROWT_9 := Lib.hid (rowE_ext ROWT_8.out hE)
        have RF_9 := Lib.hid (rowE_ext RF_8.out hE)
        have RA_9 := Lib.hid (rowE_ext RA.out hE)
        have EI_9 := Lib.hid (emOf_ext EI_8.out hE)
        have ED_9 := Lib.hid (emOf_ext ED_8.out hE)
        have ER_9 := Lib.hid (emOf_ext ER_8.out hE)
        have RW := Lib.hid hw9
        clear hw9 hE
        obtain ⟨SR, hSR⟩ : ∃ SR, SR = sortR L := ⟨_, rfl⟩
        have hSRl : SR.length ≤ 20 := by rw [hSR, HRL.out]; omega
        rw [← hSR] at RF_9 RA_9 RW ⊢
        have HSR := Lib.hid hSR
        clear hSR
        go_wp2_with fail
        refine (same_row _ _ SR _ RF_9.out RW.out (by omega)).mono ?_
        rintro e w10 ⟨rfl, hE⟩
        have HE10 := Lib.hid (ext_trans HE9.out hE)
        have ROWT_10 := Lib.hid (rowE_ext ROWT_9.out hE)
        have RF_10 := Lib.hid (rowE_ext RF_9.out hE)
        have RA_10 := Lib.hid (rowE_ext RA_9.out hE)
        have RW_10 := Lib.hid (rowE_ext RW.out hE)
        have EI_10 := Lib.hid (emOf_ext EI_9.out hE)
        have ED_10 := Lib.hid (emOf_ext ED_9.out hE)
        have ER_10 := Lib.hid (emOf_ext ER_9.out hE)
        clear hE
        go_wp2_with fail
        refine (same_row _ _ SR _ RA_10.out RW_10.out (by omega)).mono ?_
        rintro e w11 ⟨rfl, hE⟩
        have HE11 := Lib.hid (ext_trans HE10.out hE)
        have ROWT_11 := Lib.hid (rowE_ext ROWT_10.out hE)
        have RF_11 := Lib.hid (rowE_ext RF_10.out hE)
        have RA_11 := Lib.hid (rowE_ext RA_10.out hE)
        have RW_11 := Lib.hid (rowE_ext RW_10.out hE)
        have EI_11 := Lib.hid (emOf_ext EI_10.out hE)
        have ED_11 := Lib.hid (emOf_ext ED_10.out hE)
        have ER_11 := Lib.hid (emOf_ext ER_10.out hE)
        clear hE
        go_wp2_with fail
        refine (next_em pEI kI _ (sortS L) T W _ EI_11.out HE11.out (rdS_row ROWT_11.out) (by rw [HSL.out]; omega) (by omega) S1b.out ST2.out).mono ?_
        rintro e w12 ⟨lvw12, rfl, hN⟩
        have HE12 := Lib.hid hN.ext
        obtain ⟨u12, hat12⟩ := hN.at0
        have ROWT_12 := Lib.hid (row_next ROWT_11.out hN.upd hat12)
        have RF_12 := Lib.hid (row_next RF_11.out hN.upd hat12)
        have RA_12 := Lib.hid (row_next RA_11.out hN.upd hat12)
        have RW_12 := Lib.hid (row_next RW_11.out hN.upd hat12)
        have ED_12 := Lib.hid (emOf_upd ED_11.out hN.upd hat12 neEDEI.out)
        have ER_12 := Lib.hid (emOf_upd ER_11.out hN.upd hat12 neEREI.out)
        clear hat12
        have EI_12 := Lib.hid hN.em
        have hrow := hN.row.1
        rw [told_I, less_same ((sortS_perm T).trans (PT2.out.trans (sortS_perm L).symm))] at hrow
        obtain ⟨Aw12, cw12, rfl⟩ := rowE_form hrow
        clear hN hrow
        go_wp2_with fail
        refine (next_em pED kD _ (sortS L) T W _ ED_12.out HE12.out (rdS_row ROWT_12.out) (by rw [HSL.out]; omega) (by omega) S1b.out ST2.out).mono ?_
        rintro e w13 ⟨lvw13, rfl, hN⟩
        have HE13 := Lib.hid hN.ext
        obtain ⟨u13, hat13⟩ := hN.at0
        have ROWT_13 := Lib.hid (row_next ROWT_12.out hN.upd hat13)
        have RF_13 := Lib.hid (row_next RF_12.out hN.upd hat13)
        have RA_13 := Lib.hid (row_next RA_12.out hN.upd hat13)
        have RW_13 := Lib.hid (row_next RW_12.out hN.upd hat13)
        have EI_13 := Lib.hid (emOf_upd EI_12.out hN.upd hat13 (Ne.symm neEDEI.out))
        have ER_13 := Lib.hid (emOf_upd ER_12.out hN.upd hat13 neERED.out)
        clear hat13
        have ED_13 := Lib.hid hN.em
        have hrow := hN.row.1
        rw [told_D, less_same ((sortS_perm L).trans (PT2.out.symm.trans (sortS_perm T).symm))] at hrow
        obtain ⟨Aw13, cw13, rfl⟩ := rowE_form hrow
        clear hN hrow
        go_wp2_with fail
        refine (next_em pER kR _ (sortS L) T W _ ER_13.out HE13.out (rdS_row ROWT_13.out) (by rw [HSL.out]; omega) (by omega) S1b.out ST2.out).mono ?_
        rintro e w14 ⟨lvw14, rfl, hN⟩
        have HE14 := Lib.hid hN.ext
        obtain ⟨u14, hat14⟩ := hN.at0
        have ROWT_14 := Lib.hid (row_next ROWT_13.out hN.upd hat14)
        have RF_14 := Lib.hid (row_next RF_13.out hN.upd hat14)
        have RA_14 := Lib.hid (row_next RA_13.out hN.upd hat14)
        have RW_14 := Lib.hid (row_next RW_13.out hN.upd hat14)
        have EI_14 := Lib.hid (emOf_upd EI_13.out hN.upd hat14 (Ne.symm neEREI.out))
        have ED_14 := Lib.hid (emOf_upd ED_13.out hN.upd hat14 (Ne.symm neERED.out))
        clear hat14
        have ER_14 := Lib.hid hN.em
        have hrow := hN.row.1
        rw [told_R, sortS_eq, sortR_congr PT2.out, ← HSR.out] at hrow
        obtain ⟨Aw14, cw14, rfl⟩ := rowE_form hrow
        have RZ := Lib.hid hrow
        clear hN hrow
        go_wp2_with fail
        refine (same_row _ _ SR _ RZ.out RW_14.out (by omega)).mono ?_
        rintro e w15 ⟨rfl, hE⟩
        have HE15 := Lib.hid (ext_trans HE14.out hE)
        have ROWT_15 := Lib.hid (rowE_ext ROWT_14.out hE)
        have RF_15 := Lib.hid (rowE_ext RF_14.out hE)
        have RA_15 := Lib.hid (rowE_ext RA_14.out hE)
        have RW_15 := Lib.hid (rowE_ext RW_14.out hE)
        have RZ_15 := Lib.hid (rowE_ext RZ.out hE)
        have EI_15 := Lib.hid (emOf_ext EI_14.out hE)
        have ED_15 := Lib.hid (emOf_ext ED_14.out hE)
        have ER_15 := Lib.hid (emOf_ext ER_14.out hE)
        clear hE
        go_wp2
        refine bodyPost_ret (results_tmp rfl _ _ _) rfl ?_
        exact ⟨rfl, HE15.out⟩
  · have HF := Lib.hid (Bool.eq_false_iff.2 hf)
    clear hf
    go_enter Try.func5, Try.ntmps5
    go_wp2_with fail
    refine (awake_any _).mono ?_
    rintro e w1 ⟨rfl, hE⟩
    have HE1 := Lib.hid (ext_trans (ext_refl _) hE)
    clear hE
    go_wp2_with fail
    refine (few_any _ [L] _ (one_rows (rdS_ext H0.out HE1.out)) (by simp [maxLen]) HFM.out).mono ?_
    rintro e w2 ⟨rfl, rfl⟩
    rw [HF.out]
    have hE : Ext w1 (w1.alloc (.cells #[.slice A0 L.length c0] 22)) := ext_alloc (ext_refl _) _
    have HE2 := Lib.hid (ext_trans HE1.out hE)
    clear hE
    go_wp2_with fail
    refine (awake_any _).mono ?_
    rintro e w3 ⟨rfl, hE⟩
    have HE3 := Lib.hid (ext_trans HE2.out hE)
    clear hE
    go_wp2
    refine bodyPost_ret (results_tmp rfl _ _ _) rfl ?_
    exact ⟨rfl, HE3.out⟩
end Go.Proofs.Yteccpinilpkmiaa
