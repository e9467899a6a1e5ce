/- EmitLess, walked. -/
import Derived.Test.YteccpinilpkmiaaEn
namespace Go.Proofs.Yteccpinilpkmiaa
open Go Go.RowKit Go.Sort Go.Shelf
set_option maxHeartbeats 800000

theorem two_rows {W : World} {v0 v1 : Value} {L M : List ByteArray} (h0 : RdS W v0 L) (h1 : RdS W v1 M) : RdSS (W.alloc (.cells #[v0, v1] 22)) (.slice (some ⟨W.heap.size, 0, none⟩) 2 2) [L, M] := by
  have hE : Ext W (W.alloc (.cells #[v0, v1] 22)) := ext_alloc (ext_refl _) _
  refine ⟨_, _, rfl, fun _ => ⟨_, _, rfl, by simp, fun i X hi => ?_⟩⟩
  match i, hi with
  | 0, hi => cases hi; exact ⟨v0, block_cell (heap_alloc_new _ _) 0, rdS_ext h0 hE⟩
  | 1, hi => cases hi; exact ⟨v1, block_cell (heap_alloc_new _ _) 1, rdS_ext h1 hE⟩
theorem one_rows {W : World} {v0 : Value} {L : List ByteArray} (h0 : RdS W v0 L) : RdSS (W.alloc (.cells #[v0] 22)) (.slice (some ⟨W.heap.size, 0, none⟩) 1 1) [L] := by
  have hE : Ext W (W.alloc (.cells #[v0] 22)) := ext_alloc (ext_refl _) _
  refine ⟨_, _, rfl, fun _ => ⟨_, _, rfl, by simp, fun i X hi => ?_⟩⟩
  match i, hi with
  | 0, hi => cases hi; exact ⟨v0, block_cell (heap_alloc_new _ _) 0, rdS_ext h0 hE⟩
theorem few_of {LL : List (List ByteArray)} (h : fewB LL = true) {L : List ByteArray} (hL : L ∈ LL) : L.length ≤ 20 := by
  rw [fewB, Bool.and_eq_true, List.all_eq_true] at h
  have := h.1 L hL
  simpa [shortB] using this

theorem lessR_self (L : List ByteArray) : lessR L L = [] := nil_of_cnt fun s => by rw [cnt_lessR]; omega
def GotRow (L : List ByteArray) (w : World) (e : Ending) (w' : World) : Prop := ∃ A c, e = .returned (.slice A L.length c) ∧ rowE elS w' (.slice A L.length c) L ∧ Ext w w'
theorem less_row (v1 v2 : Value) (L M N : List ByteArray) (w : World) (h1 : RdS w v1 L) (h2 : RdS w v2 M) (hl : L.length ≤ 100000) (hm : M.length ≤ 100000) (hs1 : ∀ x ∈ L, x.size ≤ maxLen) (hs2 : ∀ x ∈ M, x.size ≤ maxLen) (hN : lessR L M = N) : Calls Try.prog 14 #[v1, v2] w (GotRow N w) := by
  refine (less_any v1 v2 L M w h1 h2 hl hm hs1 hs2).mono ?_
  rintro e w' ⟨lv, rfl, h, hE⟩
  rw [less_eq, hN] at h
  obtain ⟨A, c, rfl⟩ := rowE_form h.1
  exact ⟨A, c, rfl, h.1, hE⟩
theorem refless_row (v1 v2 : Value) (L M : List ByteArray) (w : World) (h1 : RdS w v1 L) (h2 : RdS w v2 M) (hl : L.length ≤ 100000) (hm : M.length ≤ 100000) : Calls Try.prog 15 #[v1, v2] w (GotRow (lessR L M) w) := by
  refine (refless_any v1 v2 L M w h1 h2 hl hm).mono ?_
  rintro e w' ⟨lv, rfl, h, hE⟩
  obtain ⟨A, c, rfl⟩ := rowE_form h.1
  exact ⟨A, c, rfl, h.1, hE⟩
theorem refsort_row (v : Value) (L : List ByteArray) (w : World) (h1 : RdS w v L) (hl : L.length ≤ 100000) : Calls Try.prog 12 #[v] w (GotRow (sortR L) w) := by
  refine (refsort_any v L w h1 hl).mono ?_
  rintro e w' ⟨lv, rfl, h, hE⟩
  obtain ⟨A, c, rfl⟩ := rowE_form h.1
  exact ⟨A, c, rfl, h.1, hE⟩
theorem same_row (v1 v2 : Value) (L : List ByteArray) (w : World) (h1 : rowE elS w v1 L) (h2 : rowE elS w v2 L) (hl : L.length ≤ 1000000) : Calls Try.prog 13 #[v1, v2] w fun e w' => e = .returned (.bool true) ∧ Ext w w' := by
  refine (same_any v1 v2 L L w (rdS_row h1) (rdS_row h2) hl hl).mono ?_
  rintro e w' ⟨rfl, hE⟩
  exact ⟨by simp, hE⟩
theorem sortR_len (L : List ByteArray) : (sortR L).length = L.length := (sortR_perm L).length_eq

theorem less_law (v0 v1 : Value) (L M : List ByteArray) (W : World) (h0 : RdS W v0 L) (h1 : RdS W v1 M) (hl : L.length ≤ maxLen) (hm : M.length ≤ maxLen) (hs1 : ∀ x ∈ L, x.size ≤ maxLen) (hs2 : ∀ x ∈ M, x.size ≤ maxLen) :
    Calls Try.prog 4 #[v0, v1] W fun e w' => e = .returned (.bool true) ∧ Ext W w' := by
  have H0 := Lib.hid h0
  obtain ⟨A0, c0, rfl, -, -⟩ := h0
  have H1 := Lib.hid h1
  obtain ⟨A1, c1, rfl, -, -⟩ := h1
  have S1 := Lib.hid hs1
  have S2 := Lib.hid hs2
  have HL := Lib.hid hl
  have HM := Lib.hid hm
  clear hs1 hs2 hl hm
  by_cases hf : fewB [L, M] = true
  · have hl : L.length ≤ 20 := few_of hf (by simp)
    have hm : M.length ≤ 20 := few_of hf (by simp)
    have HF := Lib.hid hf
    clear hf
    have hln := lessR_len L M
    have hsn := sortR_len L
    have HSN := Lib.hid hsn
    clear hsn
    go_enter Try.func4, Try.ntmps4
    go_wp2_with fail
    refine (awake_any _).mono ?_
    rintro e w1 ⟨rfl, hE1⟩
    have HE1 := Lib.hid hE1
    clear hE1
    go_wp2_with fail
    refine (few_any _ [L, M] _ (two_rows (rdS_ext H0.out HE1.out) (rdS_ext H1.out HE1.out)) (by simp [maxLen]) (by simp; exact ⟨HL.out, HM.out⟩)).mono ?_
    rintro e w2 ⟨rfl, rfl⟩
    rw [HF.out]
    have hE2 : Ext w1 (w1.alloc (.cells #[.slice A0 L.length c0, .slice A1 M.length c1] 22)) := ext_alloc (ext_refl _) _
    have HE2 := Lib.hid (ext_trans HE1.out hE2)
    clear hE2
    go_wp2_with fail
    refine (less_row _ _ L M _ _ (rdS_ext H0.out HE2.out) (rdS_ext H1.out HE2.out) (by omega) (by omega) S1.out S2.out rfl).mono ?_
    rintro e w3 ⟨B1, d1, rfl, hr1, hE⟩
    have R1 := Lib.hid hr1
    have HE3 := Lib.hid (ext_trans HE2.out hE)
    clear hr1 hE
    go_wp2_with fail
    refine (refless_row _ _ L M _ (rdS_ext H0.out HE3.out) (rdS_ext H1.out HE3.out) (by omega) (by omega)).mono ?_
    rintro e w4 ⟨B2, d2, rfl, hr2, hE⟩
    have R2 := Lib.hid hr2
    have HE4 := Lib.hid (ext_trans HE3.out hE)
    have R1b := Lib.hid (rowE_ext R1.out hE)
    clear hr2 hE
    go_wp2_with fail
    refine (same_row _ _ (lessR L M) _ R1b.out R2.out (by omega)).mono ?_
    rintro e w5 ⟨rfl, hE⟩
    have HE5 := Lib.hid (ext_trans HE4.out hE)
    clear hE
    go_wp2_with fail
    refine (less_row _ _ L L [] _ (rdS_ext H0.out HE5.out) (rdS_ext H0.out HE5.out) (by omega) (by omega) S1.out S1.out (lessR_self L)).mono ?_
    rintro e w6 ⟨B3, d3, rfl, hr3, hE⟩
    have HE6 := Lib.hid (ext_trans HE5.out hE)
    clear hr3 hE
    go_wp2_with fail
    refine (less_row _ _ L [] (sortR L) _ (rdS_ext H0.out HE6.out) (rdS_row (rowE_nil _)) (by omega) (by simp) S1.out nil_small (lessR_none L)).mono ?_
    rintro e w7 ⟨B4, d4, rfl, hr4, hE⟩
    have R4 := Lib.hid hr4
    have HE7 := Lib.hid (ext_trans HE6.out hE)
    clear hr4 hE
    go_wp2_with fail
    refine (refsort_row _ L _ (rdS_ext H0.out HE7.out) (by omega)).mono ?_
    rintro e w8 ⟨B5, d5, rfl, hr5, hE⟩
    have R5 := Lib.hid hr5
    have R4b := Lib.hid (rowE_ext R4.out hE)
    have HE8 := Lib.hid (ext_trans HE7.out hE)
    clear hr5 hE
    go_wp2_with fail
    refine (same_row _ _ (sortR L) _ R4b.out R5.out (by rw [HSN.out]; omega)).mono ?_
    rintro e w9 ⟨rfl, hE⟩
    have HE9 := Lib.hid (ext_trans HE8.out hE)
    clear hE
    go_wp2
    refine bodyPost_ret (results_tmp rfl _ _ _) rfl ?_
    exact ⟨rfl, HE9.out⟩
  · have HF := Lib.hid (Bool.eq_false_iff.2 hf)
    clear hf
    go_enter Try.func4, Try.ntmps4
    go_wp2_with fail
    refine (awake_any _).mono ?_
    rintro e w1 ⟨rfl, hE1⟩
    have HE1 := Lib.hid hE1
    clear hE1
    go_wp2_with fail
    refine (few_any _ [L, M] _ (two_rows (rdS_ext H0.out HE1.out) (rdS_ext H1.out HE1.out)) (by simp [maxLen]) (by simp; exact ⟨HL.out, HM.out⟩)).mono ?_
    rintro e w2 ⟨rfl, rfl⟩
    rw [HF.out]
    have hE2 : Ext w1 (w1.alloc (.cells #[.slice A0 L.length c0, .slice A1 M.length c1] 22)) := ext_alloc (ext_refl _) _
    have HE2 := Lib.hid (ext_trans HE1.out hE2)
    clear hE2
    go_wp2_with fail
    refine (awake_any _).mono ?_
    rintro e w3 ⟨rfl, hE⟩
    have HE3 := Lib.hid (ext_trans HE2.out hE)
    clear hE
    go_wp2
    refine bodyPost_ret (results_tmp rfl _ _ _) rfl ?_
    exact ⟨rfl, HE3.out⟩
end Go.Proofs.Yteccpinilpkmiaa
