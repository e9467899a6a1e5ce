/- EmitBacks, walked. -/
import Derived.Test.YteccpinilpkmiaaEr
namespace Go.Proofs.Yteccpinilpkmiaa
open Go Go.RowKit Go.Sort Go.Shelf
set_option maxHeartbeats 800000

def prevL (LL : List (List ByteArray)) : Nat → List ByteArray
  | 0 => []
  | k + 1 => LL.getD k []
theorem prevL_succ {LL : List (List ByteArray)} {j : Nat} {L : List ByteArray} (h : LL[j]? = some L) : prevL LL (j + 1) = L := by simp [prevL, List.getD, h]
theorem prevL_len {LL : List (List ByteArray)} (h : ∀ L ∈ LL, L.length ≤ 20) (j : Nat) : (prevL LL j).length ≤ 20 := by
  cases j with
  | zero => simp [prevL]
  | succ k =>
    rcases hk : LL[k]? with _ | L
    · simp [prevL, List.getD, hk]
    · rw [prevL_succ hk]; exact h L (List.mem_of_getElem? hk)
theorem prevL_small {LL : List (List ByteArray)} (h : ∀ L ∈ LL, ∀ x ∈ L, x.size ≤ maxLen) (j : Nat) : ∀ x ∈ prevL LL j, x.size ≤ maxLen := by
  cases j with
  | zero => simp [prevL]
  | succ k =>
    rcases hk : LL[k]? with _ | L
    · simp [prevL, List.getD, hk]
    · rw [prevL_succ hk]; exact h L (List.mem_of_getElem? hk)
theorem few_all {LL : List (List ByteArray)} (h : fewB LL = true) : (∀ L ∈ LL, L.length ≤ 20) ∧ LL.length ≤ 12 := by
  refine ⟨fun L hL => few_of h hL, ?_⟩
  rw [fewB, Bool.and_eq_true] at h
  simpa using h.2
theorem last_em (p : Nat) (k : ByteArray) (L : List ByteArray) (W w : World) (h : EmOf W w p k L) (hl : L.length ≤ 1000000) : Calls Try.prog 16 #[.pointer (some ⟨p, 0, none⟩)] w fun e w' => ∃ A c, e = .returned (.slice A L.length c) ∧ rowF elS w.heap.size L (.slice A L.length c) w' ∧ Ext w w' := by
  obtain ⟨_, v, h2, h3, _⟩ := h
  refine (last_any p k v L w h2 h3 hl).mono ?_
  rintro e w' ⟨v', rfl, h4, h5⟩
  obtain ⟨A, c, rfl⟩ := rowE_form h4.1
  exact ⟨A, c, rfl, h4, h5⟩
theorem refless_rowF (v1 v2 : Value) (L M : List ByteArray) (w : World) (h1 : RdS w v1 L) (h2 : RdS w v2 M) (hl : L.length ≤ 100000) (hm : M.length ≤ 100000) : Calls Try.prog 15 #[v1, v2] w fun e w' => ∃ A c, e = .returned (.slice A (lessR L M).length c) ∧ rowF elS w.heap.size (lessR L M) (.slice A (lessR L M).length c) w' ∧ Ext w w' := by
  refine (refless_any v1 v2 L M w h1 h2 hl hm).mono ?_
  rintro e w' ⟨lv, rfl, h, hE⟩
  obtain ⟨A, c, rfl⟩ := rowE_form h.1
  exact ⟨A, c, rfl, h, hE⟩
theorem sortS_idem (L : List ByteArray) : sortS L = sortR L := sortS_eq L
theorem backs_plain (P L fresh gone : List ByteArray) (h1 : fresh = lessR (sortS L) (sortS P)) (h2 : gone = lessR (sortS P) (sortS L)) : sortR (lessR (sortR P) gone ++ fresh) = sortR L := by
  subst h1 h2
  refine sortR_congr (perm_of_cnt fun s => ?_)
  rw [cnt_append, cnt_lessR, cnt_lessR, cnt_lessR, cnt_sortS, cnt_sortS, cnt_sortR]
  omega

theorem backs_law (v0 : Value) (LL : List (List ByteArray)) (W : World) (h0 : RdSS W v0 LL) (hl : LL.length ≤ maxLen) (hl1 : ∀ L ∈ LL, L.length ≤ maxLen) (hs1 : ∀ L ∈ LL, ∀ x ∈ L, x.size ≤ maxLen) :
    Calls Try.prog 6 #[v0] W fun e w' => e = .returned (.bool true) ∧ Ext W w' := by
  have H0 := Lib.hid h0
  obtain ⟨A0, c0, rfl, hA0⟩ := h0
  have HA := Lib.hid hA0
  have S1 := Lib.hid hs1
  have HL0 := Lib.hid hl
  have HFM := Lib.hid hl1
  clear hs1 hl hA0 hl1
  by_cases hf : fewB LL = true
  · have hl : LL.length ≤ 12 := (few_all hf).2
    have HLM := Lib.hid (few_all hf).1
    have HF := Lib.hid hf
    clear hf
    go_enter Try.func6, Try.ntmps6
    go_wp2_with fail
    refine (awake_any _).mono ?_
    rintro e w1 ⟨rfl, hE⟩
    have HE1 := Lib.hid (ext_trans (ext_refl _) hE)
    clear hE
    go_wp2_with fail
    refine (few_any _ LL _ (rdSS_ext H0.out HE1.out) HL0.out HFM.out).mono ?_
    rintro e w2 ⟨rfl, rfl⟩
    rw [HF.out]
    go_wp2_with fail
    refine (new_em kI knows_I W _ HE1.out).mono ?_
    rintro e w3 ⟨pEI, rfl, hp, hem, hE⟩
    have HE2 := Lib.hid (ext_trans HE1.out hE)
    have EI := Lib.hid hem
    clear hp hem hE
    go_wp2_with fail
    refine (new_em kD knows_D W _ HE2.out).mono ?_
    rintro e w4 ⟨pED, rfl, hp, hem, hE⟩
    have neEDEI := Lib.hid (show pED ≠ pEI by have := emOf_lt EI.out; omega)
    have HE3 := Lib.hid (ext_trans HE2.out hE)
    have EI_3 := Lib.hid (emOf_ext EI.out hE)
    have ED := Lib.hid hem
    clear hp hem hE
    go_wp2
    go_loopw [36, 7] (fun x y wr => ∃ (j : Nat) (B : Option Addr) (d : Nat) (T : List ByteArray), j ≤ LL.length ∧ x = .int .i64 j ∧ T = sortR (prevL LL j) ∧ y = .slice B T.length d ∧ rowE elS wr (.slice B T.length d) T ∧ EmOf W wr pEI kI (sortS (prevL LL j)) ∧ EmOf W wr pED kD (sortS (prevL LL j)) ∧ Ext W wr) (fun x _ _ => LL.length - (intOf x).toNat)
    case atStart => exact ⟨0, none, 0, [], by omega, rfl, rfl, rfl, rowE_nil _, (by have := EI_3.out; rw [prevL, sortS_eq]; exact this), (by have := ED.out; rw [prevL, sortS_eq]; exact this), HE3.out⟩
    case round =>
      rename World => wo
      obtain ⟨j, B, d, T, hj, rfl, hT, rfl, hrow, hEI, hED, hE⟩ := hrel
      have HE := Lib.hid hE
      have HROW := Lib.hid hrow
      have HTE := Lib.hid hT
      have EI := Lib.hid hEI
      have ED := Lib.hid hED
      have HPL := Lib.hid (prevL_len HLM.out j)
      have HPS := Lib.hid (small_sort (prevL_small S1.out j))
      have hPl : (prevL LL j).length ≤ 20 := HPL.out
      have hTl : T.length ≤ 20 := by rw [hT, sortR_len]; exact HPL.out
      have HPS1 := Lib.hid (show (sortS (prevL LL j)).length ≤ 20 by rw [sortS_length]; exact HPL.out)
      clear hE hrow hT hEI hED hPl
      by_cases hlt : j < LL.length
      · have hji : (j : Int) < (LL.length : Int) := by omega
        have hj0 : (0 : Int) ≤ (j : Int) := by omega
        obtain ⟨L, hL⟩ : ∃ L, LL[j]? = some L := ⟨_, List.getElem?_eq_getElem hlt⟩
        obtain ⟨b, off, hA0, hb, hca⟩ := HA.out (fun e => by rw [e] at hL; simp at hL)
        subst hA0
        obtain ⟨u, q0', hu⟩ := hca j L hL
        have RL := Lib.hid hu
        obtain ⟨A1, c1, rfl, -, -⟩ := hu
        have q0 := (ext_cell HE.out _ _ hb).trans q0'
        have lb := ext_lt HE.out hb
        have hll : L.length ≤ 20 := HLM.out L (List.mem_of_getElem? hL)
        have SL := Lib.hid (S1.out L (List.mem_of_getElem? hL))
        have HL := Lib.hid hL
        have HSL := Lib.hid (sortS_length L)
        have HF1 := Lib.hid (lessR_len (sortS L) (sortS (prevL LL j)))
        have HF2 := Lib.hid (lessR_len (sortS (prevL LL j)) (sortS L))
        clear hca q0' hL
        go_wp2_with fail
        refine (next_em pEI kI _ (sortS (prevL LL j)) L W _ EI.out HE.out (rdS_ext RL.out HE.out) (Nat.le_trans HPS1.out (by decide)) (by omega) HPS.out SL.out).mono ?_
        rintro e w5 ⟨lvw5, rfl, hN⟩
        have HE4 := Lib.hid hN.ext
        obtain ⟨u4, hat4⟩ := hN.at0
        have HROW_4 := Lib.hid (row_next HROW.out hN.upd hat4)
        have ED_4 := Lib.hid (emOf_upd ED.out hN.upd hat4 neEDEI.out)
        clear hat4
        have EI_4 := Lib.hid hN.em
        have hrow := hN.row.1
        rw [told_I] at hrow
        obtain ⟨Aw5, cw5, rfl⟩ := rowE_form hrow
        have RF := Lib.hid hrow
        clear hN hrow
        go_wp2_with fail
        refine (next_em pED kD _ (sortS (prevL LL j)) L W _ ED_4.out HE4.out (rdS_ext RL.out HE4.out) (Nat.le_trans HPS1.out (by decide)) (by omega) HPS.out SL.out).mono ?_
        rintro e w6 ⟨lvw6, rfl, hN⟩
        have HE5 := Lib.hid hN.ext
        obtain ⟨u5, hat5⟩ := hN.at0
        have HROW_5 := Lib.hid (row_next HROW_4.out hN.upd hat5)
        have RF_5 := Lib.hid (row_next RF.out hN.upd hat5)
        have EI_5 := Lib.hid (emOf_upd EI_4.out hN.upd hat5 (Ne.symm neEDEI.out))
        clear hat5
        have ED_5 := Lib.hid hN.em
        have hrow := hN.row.1
        rw [told_D] at hrow
        obtain ⟨Aw6, cw6, rfl⟩ := rowE_form hrow
        have RG := Lib.hid hrow
        clear hN hrow
        obtain ⟨fresh, hfr⟩ : ∃ fresh, fresh = lessR (sortS L) (sortS (prevL LL j)) := ⟨_, rfl⟩
        obtain ⟨gone, hgn⟩ : ∃ gone, gone = lessR (sortS (prevL LL j)) (sortS L) := ⟨_, rfl⟩
        rw [← hfr] at HF1 RF_5 ⊢
        rw [← hgn] at HF2 RG ⊢
        have HFR := Lib.hid hfr
        have HGN := Lib.hid hgn
        clear hfr hgn
        have hf1 : fresh.length ≤ 20 := by have := HF1.out; rw [HSL.out] at this; omega
        have hf2 : gone.length ≤ 20 := Nat.le_trans HF2.out HPS1.out
        go_wp2_with fail
        refine (refless_rowF _ _ T gone _ (rdS_row HROW_5.out) (rdS_row RG.out) (by omega) (by omega)).mono ?_
        rintro e w7 ⟨Ak, ck, rfl, hk, hE⟩
        have HE6 := Lib.hid (ext_trans HE5.out hE)
        have HROW_6 := Lib.hid (rowE_ext HROW_5.out hE)
        have RF_6 := Lib.hid (rowE_ext RF_5.out hE)
        have RG_6 := Lib.hid (rowE_ext RG.out hE)
        have EI_6 := Lib.hid (emOf_ext EI_5.out hE)
        have ED_6 := Lib.hid (emOf_ext ED_5.out hE)
        have HKE := Lib.hid hE
        have hkl := lessR_len T gone
        obtain ⟨K, hK⟩ : ∃ K, K = lessR T gone := ⟨_, rfl⟩
        rw [← hK] at hk hkl ⊢
        have HK := Lib.hid hk
        have HKK := Lib.hid hK
        clear hk hE hK
        go_wp2_with (at_builtin; refine halt_here ?_)
        refine go_on ?_
        refine wpList_append rfl (.tmp 48) (.tmp 49) rfl _ _ rfl rfl (fun v' w' => rowF elS w6.heap.size (K ++ fresh) v' w' ∧ w7.grownBy w' (Value.slice Ak K.length ck).ownBlock) (append_onto tpS _ w6.heap.size (.slice Ak K.length ck) _ K fresh _ HK.out (srcOf_row RF_6.out) (by omega) (ext_size HKE.out)) ?_
        rintro vw8 w8 ⟨hr, hgb⟩
        obtain ⟨J, hJ⟩ : ∃ J, J = K ++ fresh := ⟨_, rfl⟩
        rw [← hJ] at hr
        have hlJ : J.length ≤ 40 := by rw [hJ, List.length_append]; omega
        have HJ := Lib.hid hJ
        clear hJ
        obtain ⟨Xw8, xw8, hxw8⟩ := rowE_form hr.1
        subst hxw8
        have hE : Ext w6 w8 := ext_grown HKE.out hgb (fun g hg => HK.out.2 g hg) (Nat.le_refl _)
        have HE7 := Lib.hid (ext_trans HE5.out hE)
        have HROW_7 := Lib.hid (rowE_ext HROW_5.out hE)
        have RF_7 := Lib.hid (rowE_ext RF_5.out hE)
        have RG_7 := Lib.hid (rowE_ext RG.out hE)
        have EI_7 := Lib.hid (emOf_ext EI_5.out hE)
        have ED_7 := Lib.hid (emOf_ext ED_5.out hE)
        have RJ := Lib.hid hr.1
        clear hE hr hgb
        go_wp2_with fail
        refine (refsort_row _ J _ (rdS_row RJ.out) (by omega)).mono ?_
        rintro e w9 ⟨Aw9, cw9, rfl, hw9, hE⟩
        have HE8 := Lib.hid (ext_trans HE7.out hE)
        have HROW_8 := Lib.hid (rowE_ext HROW_7.out hE)
        have RF_8 := Lib.hid (rowE_ext RF_7.out hE)
        have RG_8 := Lib.hid (rowE_ext RG_7.out hE)
        have RJ_8 := Lib.hid (rowE_ext RJ.out hE)
        have EI_8 := Lib.hid (emOf_ext EI_7.out hE)
        have ED_8 := Lib.hid (emOf_ext ED_7.out hE)
        have RN := Lib.hid hw9
        clear hw9 hE
        have hJL : sortR J = sortR L := by rw [HJ.out, HKK.out, HTE.out]; exact backs_plain (prevL LL j) L fresh gone HFR.out HGN.out
        rw [hJL] at RN ⊢
        clear hJL
        go_wp2_with fail
        refine (refsort_row _ L _ (rdS_ext RL.out HE8.out) (by omega)).mono ?_
        rintro e w10 ⟨Aw10, cw10, rfl, hw10, hE⟩
        have HE9 := Lib.hid (ext_trans HE8.out hE)
        have HROW_9 := Lib.hid (rowE_ext HROW_8.out hE)
        have RF_9 := Lib.hid (rowE_ext RF_8.out hE)
        have RG_9 := Lib.hid (rowE_ext RG_8.out hE)
        have RJ_9 := Lib.hid (rowE_ext RJ_8.out hE)
        have RN_9 := Lib.hid (rowE_ext RN.out hE)
        have EI_9 := Lib.hid (emOf_ext EI_8.out hE)
        have ED_9 := Lib.hid (emOf_ext ED_8.out hE)
        have RS := Lib.hid hw10
        clear hw10 hE
        obtain ⟨SR, hSR⟩ : ∃ SR, SR = sortR L := ⟨_, rfl⟩
        have hSRl : SR.length ≤ 20 := by rw [hSR, sortR_len]; omega
        rw [← hSR] at RN_9 RS ⊢
        have HSR := Lib.hid hSR
        clear hSR
        go_wp2_with fail
        refine (same_row _ _ SR _ RN_9.out RS.out (by omega)).mono ?_
        rintro e w11 ⟨rfl, hE⟩
        have HE10 := Lib.hid (ext_trans HE9.out hE)
        have HROW_10 := Lib.hid (rowE_ext HROW_9.out hE)
        have RF_10 := Lib.hid (rowE_ext RF_9.out hE)
        have RG_10 := Lib.hid (rowE_ext RG_9.out hE)
        have RJ_10 := Lib.hid (rowE_ext RJ_9.out hE)
        have RN_10 := Lib.hid (rowE_ext RN_9.out hE)
        have RS_10 := Lib.hid (rowE_ext RS.out hE)
        have EI_10 := Lib.hid (emOf_ext EI_9.out hE)
        have ED_10 := Lib.hid (emOf_ext ED_9.out hE)
        clear hE
        go_wp2_with fail
        have hem := EI_10.out
        rw [sortS_eq, ← HSR.out] at hem
        have HEM := Lib.hid hem
        clear hem
        refine (last_em pEI kI SR W _ HEM.out (by omega)).mono ?_
        rintro e w12 ⟨Al, cl, rfl, hl1, hE⟩
        have HE11 := Lib.hid (ext_trans HE10.out hE)
        have HROW_11 := Lib.hid (rowE_ext HROW_10.out hE)
        have RF_11 := Lib.hid (rowE_ext RF_10.out hE)
        have RG_11 := Lib.hid (rowE_ext RG_10.out hE)
        have RJ_11 := Lib.hid (rowE_ext RJ_10.out hE)
        have RN_11 := Lib.hid (rowE_ext RN_10.out hE)
        have RS_11 := Lib.hid (rowE_ext RS_10.out hE)
        have EI_11 := Lib.hid (emOf_ext EI_10.out hE)
        have ED_11 := Lib.hid (emOf_ext ED_10.out hE)
        have RLAST := Lib.hid hl1.1
        clear hl1 hE
        go_wp2_with fail
        refine (same_row _ _ SR _ RLAST.out RN_11.out (by omega)).mono ?_
        rintro e w13 ⟨rfl, hE⟩
        have HE12 := Lib.hid (ext_trans HE11.out hE)
        have HROW_12 := Lib.hid (rowE_ext HROW_11.out hE)
        have RF_12 := Lib.hid (rowE_ext RF_11.out hE)
        have RG_12 := Lib.hid (rowE_ext RG_11.out hE)
        have RJ_12 := Lib.hid (rowE_ext RJ_11.out hE)
        have RN_12 := Lib.hid (rowE_ext RN_11.out hE)
        have RS_12 := Lib.hid (rowE_ext RS_11.out hE)
        have RLAST_12 := Lib.hid (rowE_ext RLAST.out hE)
        have EI_12 := Lib.hid (emOf_ext EI_11.out hE)
        have ED_12 := Lib.hid (emOf_ext ED_11.out hE)
        clear hE
        go_wp2
        go_roundw
        case rel => exact ⟨j + 1, _, _, SR, by omega, by go_num, by rw [prevL_succ HL.out, HSR.out], rfl, RN_12.out, by rw [prevL_succ HL.out]; exact EI_12.out, by rw [prevL_succ HL.out]; exact ED_12.out, HE12.out⟩
        case measure => simp [intOf]; omega
      · obtain rfl : j = LL.length := by omega
        go_wp2
        refine bodyPost_ret (results_tmp rfl _ _ _) rfl ?_
        exact ⟨rfl, HE.out⟩
  · have HF := Lib.hid (Bool.eq_false_iff.2 hf)
    clear hf
    go_enter Try.func6, Try.ntmps6
    go_wp2_with fail
    refine (awake_any _).mono ?_
    rintro e w1 ⟨rfl, hE⟩
    have HE1 := Lib.hid (ext_trans (ext_refl _) hE)
    clear hE
    go_wp2_with fail
    refine (few_any _ LL _ (rdSS_ext H0.out HE1.out) HL0.out HFM.out).mono ?_
    rintro e w2 ⟨rfl, rfl⟩
    rw [HF.out]
    go_wp2_with fail
    refine (awake_any _).mono ?_
    rintro e w3 ⟨rfl, hE⟩
    have HE2 := Lib.hid (ext_trans HE1.out hE)
    clear hE
    go_wp2
    refine bodyPost_ret (results_tmp rfl _ _ _) rfl ?_
    exact ⟨rfl, HE2.out⟩
end Go.Proofs.Yteccpinilpkmiaa
