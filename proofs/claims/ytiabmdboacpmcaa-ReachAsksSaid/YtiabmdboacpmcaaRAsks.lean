/- ReachAsks: whom a node is paired with, and whether two are, is as the pairs say. No condition. -/
import Derived.Test.YtiabmdboacpmcaaX26
import Derived.Test.YtiabmdboacpmcaaX32
import Derived.Test.YtiabmdboacpmcaaX18
import Derived.Test.YtiabmdboacpmcaaX34
/- Paths put together: their values, their words; rows cut short. -/
namespace Go.Proofs.Ytiabmdboacpmcaa
open Go Go.RowKit Go.Sort
set_option maxHeartbeats 1000000

theorem chk_of {t : Tr} (h1 : formB t = true) (h2 : sizeT t ≤ 200) (h3 : depthT t ≤ 40) : chk t = 0 := by
  have hd : deepB t 40 = true := by
    rw [show (40 : Int) = ((40 : Nat) : Int) from rfl, deep_depth, decide_eq_true_eq]; omega
  unfold chk
  rw [hd, h1, if_pos rfl, if_neg (by omega), if_pos rfl]
theorem fit_small {m : Nat} {t : Tr} (h : Fit m t) (hm : m ≤ 5) : formB t = true ∧ sizeT t ≤ 31 ∧ depthT t ≤ 5 := by
  obtain ⟨h1, h2, h3⟩ := h
  have : 2 ^ m ≤ 32 := Nat.le_trans (Nat.pow_le_pow_right (by decide) hm) (by decide)
  exact ⟨h1, by omega, by omega⟩
theorem chk_loop {p : Tr} (k : Int) (hk : k = 4 ∨ k = 5 ∨ k = 6) (h1 : formB p = true) (h2 : sizeT p ≤ 100) (h3 : depthT p ≤ 30) : chk (.node k 0 [p]) = 0 ∧ formB (.node k 0 [p]) = true ∧ sizeT (.node k 0 [p]) = 1 + sizeT p ∧ depthT (.node k 0 [p]) = 1 + depthT p := by
  have e1 : formB (.node k 0 [p]) = true := by rcases hk with rfl | rfl | rfl <;> simp [formB, formL, h1]
  have e2 : sizeT (.node k 0 [p]) = 1 + sizeT p := by simp [sizeT, sizeL]
  have e3 : depthT (.node k 0 [p]) = 1 + depthT p := by simp [depthT, depthL]
  exact ⟨chk_of e1 (by omega) (by omega), e1, e2, e3⟩
theorem chk_pair {p q : Tr} (k : Int) (hk : k = 2 ∨ k = 3) (h1 : formB p = true) (h2 : sizeT p ≤ 90) (h3 : depthT p ≤ 30) (k1 : formB q = true) (k2 : sizeT q ≤ 90) (k3 : depthT q ≤ 30) : chk (.node k 0 [p, q]) = 0 := by
  have e1 : formB (.node k 0 [p, q]) = true := by rcases hk with rfl | rfl <;> simp [formB, formL, h1, k1]
  have e2 : sizeT (.node k 0 [p, q]) = 1 + (sizeT p + sizeT q) := by simp [sizeT, sizeL]
  have e3 : depthT (.node k 0 [p, q]) = 1 + max (depthT p) (depthT q) := by simp [depthT, depthL]
  exact chk_of e1 (by omega) (by omega)
theorem PT_val3 {w : World} {t : Tr} {a b s : Value} {g o : Nat} (h : PV w t (.agg #[a, b, s])) (h1 : w.cell? ⟨g, o, none⟩ = some a) (h2 : w.cell? ⟨g, o + 1, none⟩ = some b) (h3 : w.cell? ⟨g, o + 2, none⟩ = some s) : PT w t g o := by
  cases t with
  | node k n ps =>
    obtain ⟨s', hs, A, c, rfl, hp⟩ := h
    simp only [Value.agg.injEq, Array.mk.injEq, List.cons.injEq, and_true] at hs
    obtain ⟨rfl, rfl, rfl⟩ := hs
    rw [PT]
    exact ⟨h1, h2, A, c, h3, hp⟩
theorem PV_wrap {w : World} {g : Nat} {p : Tr} {a b s : Value} (k z : Int) (h : PV w p (.agg #[a, b, s])) (hb : w.heap[g]? = some (.cells #[a, b, s] 30 (0, 0))) : PV w (.node k z [p]) (.agg #[.int .i64 k, .int .i64 z, .slice (some ⟨g, 0, none⟩) 1 1]) := by
  refine ⟨_, rfl, _, _, rfl, fun _ => ⟨g, 0, rfl, ?_⟩⟩
  rw [PL, PL]
  exact ⟨PT_val3 h (block_cell hb 0) (block_cell hb 1) (block_cell hb 2), trivial⟩
theorem PV_pair {w : World} {g : Nat} {p q : Tr} {a b s a' b' s' : Value} (k z : Int) (h : PV w p (.agg #[a, b, s])) (h' : PV w q (.agg #[a', b', s'])) (hb : w.heap[g]? = some (.cells #[a, b, s, a', b', s'] 30 (0, 0))) : PV w (.node k z [p, q]) (.agg #[.int .i64 k, .int .i64 z, .slice (some ⟨g, 0, none⟩) 2 2]) := by
  refine ⟨_, rfl, _, _, rfl, fun _ => ⟨g, 0, rfl, ?_⟩⟩
  rw [PL, PL, PL]
  exact ⟨PT_val3 h (block_cell hb 0) (block_cell hb 1) (block_cell hb 2), PT_val3 h' (block_cell hb 3) (block_cell hb 4) (block_cell hb 5), trivial⟩
theorem star_again (p : Tr) (u : List Sy) : tk (.node 6 0 [.node 5 0 [p]]) u = tk (.node 4 0 [p]) u := by
  rw [Bool.eq_iff_iff, tk_iff, tk_iff, words_opt, words_plus0, words_star0]
  constructor
  · rintro (rfl | ⟨a, b, rfl, h1, h2⟩)
    · exact .nil
    · exact .cons h1 h2
  · intro h
    cases h with
    | nil => exact .inl rfl
    | cons h1 h2 => exact .inr ⟨_, _, rfl, h1, h2⟩
theorem plus_both (p : Tr) (u : List Sy) : tk (.node 2 0 [p, .node 4 0 [p]]) u = tk (.node 5 0 [p]) u := by
  rw [Bool.eq_iff_iff, tk_iff, tk_iff, words_seq, words_plus0, WordsSeq]
  constructor
  · rintro ⟨a, b, h, h1, h2⟩
    exact ⟨a, b, h, h1, (words_star0 0 p b).1 ((wordsSeq_one _ _).1 h2)⟩
  · rintro ⟨a, b, h, h1, h2⟩
    exact ⟨a, b, h, h1, (wordsSeq_one _ _).2 ((words_star0 0 p b).2 h2)⟩
theorem plus_star {p : Tr} {u : List Sy} (h : tk (.node 5 0 [p]) u = true) : tk (.node 4 0 [p]) u = true := by
  rw [tk_iff, words_plus0] at h
  obtain ⟨a, b, rfl, h1, h2⟩ := h
  rw [tk_iff, words_star0]
  exact .cons h1 h2
theorem star_nil (p : Tr) : tk (.node 4 0 [p]) [] = true := (tk_iff _ _).2 (words_star_nil 0 p)
theorem rdNd_take {w : World} {A : Option Addr} {n c k : Nat} {L : List Nd} (h : RdNd w (.slice A n c) L) (hk : k ≤ L.length) (c' : Nat) (hc : k ≤ c') : RdNd w (.slice A k c') (L.take k) := by
  obtain ⟨A', c1, h1, h2, h0, h3⟩ := h
  simp only [Value.slice.injEq] at h1
  obtain ⟨rfl, -, -⟩ := h1
  have hl : (L.take k).length = k := by rw [List.length_take]; omega
  refine ⟨A, c', by rw [hl], by rw [hl]; exact hc, fun x hx => h0 x (List.mem_of_mem_take hx), fun hne => ?_⟩
  obtain ⟨b, off, h4, h5, h6⟩ := h3 (fun e => by rw [e] at hne; simp at hne)
  refine ⟨b, off, h4, h5, fun i x hx => h6 i x ?_⟩
  rw [List.getElem?_take] at hx
  split at hx
  · exact hx
  · cases hx
theorem one_any (k : Int) (A : Option Addr) (n c : Nat) (w : World) : Calls Try.prog 27 #[.int .i64 k, .slice A n c] w fun e w' => e = .returned (.agg #[.int .i64 k, .int .i64 0, .slice A n c]) ∧ Ext w w' := by
  go_enter Try.func27, Try.ntmps27
  go_wp2
  refine bodyPost_ret (v := .agg #[.int .i64 k, .int .i64 0, .slice A n c]) (by simp [results, Try.results27, go_sem]) rfl ?_
  exact ⟨rfl, ext_alloc (ext_refl _) _⟩
end Go.Proofs.Ytiabmdboacpmcaa
/- ReachMore. -/
namespace Go.Proofs.Ytiabmdboacpmcaa
open Go Go.RowKit Go.Sort Go.WideMaps Go.Maps
set_option maxHeartbeats 4000000

theorem foR_low {t : Tr} {E : List Ed} {H H' N : Nat} {w0 : World} {L : Loc} {ve : Value} {w : World} (h : FoR t E H N w0 L ve w) (hh : H' ≤ H) : FoR t E H' N w0 L ve w := by
  obtain ⟨F, h1, h2, h3, h4⟩ := h
  exact ⟨F, h1, fun b hb => ⟨Nat.le_trans hh (h2 b hb).1, (h2 b hb).2⟩, rowF_low h3 hh, h4⟩
set_option maxRecDepth 100000 in
theorem more_law (v va vb : Value) (L : List Nd) (LA LB : List AR) (w : World) (hv : RdNd w v L) (ha : RdAR w va LA) (hb : RdAR w vb LB) : Calls Try.prog 9 #[v, va, vb] w fun e w' => e = .returned (.bool true) ∧ Ext w w' := by
  have HV := Lib.hid hv
  have HA := Lib.hid ha
  have HB := Lib.hid hb
  obtain ⟨A1, c1, rfl, hok1, -⟩ := ha
  obtain ⟨A2, c2, rfl, hok2, -⟩ := hb
  have HOK := Lib.hid (And.intro hok1 hok2)
  obtain ⟨na, hna⟩ : ∃ n, n = LA.length := ⟨_, rfl⟩
  obtain ⟨nb, hnb⟩ : ∃ n, n = LB.length := ⟨_, rfl⟩
  rw [← hna] at HA ⊢
  rw [← hnb] at HB ⊢
  have HN := Lib.hid (And.intro hna hnb)
  clear hv hna hnb hok1 hok2
  go_enter Try.func9, Try.ntmps9
  go_wp2_with fail
  refine (awake11_any _).mono ?_
  rintro e w1 ⟨rfl, hE1⟩
  have HE1 := Lib.hid hE1
  clear hE1
  by_cases hbna : (10 : Int) < (na : Int)
  · go_wp2_with fail
    refine (awake11_any _).mono ?_
    rintro e w2 ⟨rfl, hE2⟩
    have HE2 := Lib.hid (ext_trans HE1.out hE2)
    clear hE2
    go_wp2
    refine bodyPost_ret (results_tmp rfl _ _ _) rfl ?_
    exact ⟨rfl, HE2.out⟩
  by_cases hbnb : (10 : Int) < (nb : Int)
  · go_wp2_with fail
    refine (awake11_any _).mono ?_
    rintro e w2 ⟨rfl, hE2⟩
    have HE2 := Lib.hid (ext_trans HE1.out hE2)
    clear hE2
    go_wp2
    refine bodyPost_ret (results_tmp rfl _ _ _) rfl ?_
    exact ⟨rfl, HE2.out⟩
  go_wp2_with fail
  refine (fix_any v L _ (rdNd_ext HV.out HE1.out)).mono ?_
  rintro e w2 ⟨L', v', rfl, hr, hF, hl, hE2⟩
  have HR := Lib.hid hr
  have HF := Lib.hid hF
  have HE2 := Lib.hid (ext_trans HE1.out hE2)
  have hl8 : L'.length ≤ 8 := by omega
  clear hr hF hE2 hl
  go_wp2_with fail
  refine (tree_fix 8 (by decide) (by decide) v' L' _ HR.out HF.out hl8).mono ?_
  rintro e w3 ⟨rb, n, t, k, z, A, q, c, rfl, hn, hfit, hlst, hpv, hE3⟩
  obtain ⟨hfb, hch, -⟩ := fit_chk hfit (by decide)
  have hsz : sizeT t ≤ 300 := by have := hfit.2.1; omega
  have HLS := Lib.hid hlst
  have HPV := Lib.hid hpv
  have HE3 := Lib.hid (ext_trans HE2.out hE3)
  clear hfit hlst hpv hE3 hfb hl8
  go_wp2_with fail
  have hE4 := ext_alloc (ext_refl w3) (.cells #[.int .i64 k, .int .i64 z, .slice A q c] 30)
  have hB4 := heap_alloc_new w3 (.cells #[.int .i64 k, .int .i64 z, .slice A q c] 30)
  obtain ⟨w4, hw4⟩ : ∃ w4, w4 = w3.alloc (.cells #[.int .i64 k, .int .i64 z, .slice A q c] 30) := ⟨_, rfl⟩
  obtain ⟨p6, hp6⟩ : ∃ p6, p6 = w3.heap.size := ⟨_, rfl⟩
  rw [← hw4] at hE4 hB4 ⊢
  rw [← hp6] at hB4 ⊢
  have HB4 := Lib.hid hB4
  have HE4 := Lib.hid (ext_trans HE3.out hE4)
  have HL4 := Lib.hid (lst_ext HLS.out hE4)
  have HP4 := Lib.hid (PV_ext HPV.out hE4)
  clear hw4 hp6 hE4 hB4 HLS HPV HE3
  refine (rcheck_any t rb n 0 _ (by omega) hn HL4.out).mono ?_
  rintro e w5 ⟨rfl, hE5⟩
  have h45 := (ext_block hE5 (block_lt HB4.out)).trans HB4.out
  have HP5 := Lib.hid (PV_ext HP4.out hE5)
  have HB5 := Lib.hid h45
  have HE5 := Lib.hid (ext_trans HE4.out hE5)
  clear hE5 h45 HP4 HB4 HE4
  by_cases hz : chk t = 0
  · rw [hz]
    have HZ := Lib.hid hz
    have hna : LA.length ≤ 10 := by rw [← HN.out.1]; omega
    have hnb : LB.length ≤ 10 := by rw [← HN.out.2]; omega
    have b0 := block_cell HB5.out 0
    have b1 := block_cell HB5.out 1
    have b2 := block_cell HB5.out 2
    have bl := block_lt HB5.out
    clear hz hch
    go_wp2_with fail
    have ha5 := rdAR_ext HA.out HE5.out
    refine (forest_any t _ _ LA w5 HP5.out HZ.out ha5 (by omega)).mono ?_
    rintro e w6 ⟨w0, Lc, ve, rfl, hF6, hE6⟩
    have HF6 := Lib.hid hF6
    have HB6 := Lib.hid ((ext_block hE6 (block_lt HB5.out)).trans HB5.out)
    have HP6 := Lib.hid (PV_ext HP5.out hE6)
    have HE6 := Lib.hid (ext_trans HE5.out hE6)
    have HAB := Lib.hid (And.intro (rdAR_ext HA.out HE6.out) (rdAR_ext HB.out HE6.out))
    clear ha5 hF6 hE6 b0 b1 b2 bl
    go_wp2_with fail
    have hCE : ∀ a b, Ext w6 a → Ext a b → Ext w6 b := fun a b h h' => ext_trans h h'
    have ux0 : ∀ p : CW (Ext w6), p.val.cell? ⟨p6, 0, none⟩ = some (.int .i64 k) := fun p => block_cell ((ext_block p.ok (block_lt HB6.out)).trans HB6.out) 0
    have ux1 : ∀ p : CW (Ext w6), p.val.cell? ⟨p6, 1, none⟩ = some (.int .i64 z) := fun p => block_cell ((ext_block p.ok (block_lt HB6.out)).trans HB6.out) 1
    have ux2 : ∀ p : CW (Ext w6), p.val.cell? ⟨p6, 2, none⟩ = some (.slice A q c) := fun p => block_cell ((ext_block p.ok (block_lt HB6.out)).trans HB6.out) 2
    have uxl : ∀ p : CW (Ext w6), p6 < p.val.heap.size := fun p => ext_lt p.ok (block_lt HB6.out)
    refine wp_region_evt (C := Ext w6) hCE (ext_refl w6) [2, 4] [0] [(1, noneF elAR w6.heap.size), (3, rowF elAR w6.heap.size LA), (5, rowF elAR w6.heap.size (LA ++ LB)), (6, FoT t (edsL (LA ++ LB)) w6.heap.size)] [7, 8, 9, 10, 11] [1, 3, 5, 6] rfl (by kernel_rfl) (by kernel_rfl) (fun _ _ d _ _ h => by cases d <;> exact h) ?_
    refine wpPre_step rfl (fun K hK => ?_)
    go_simp
    refine hK _ ?_
    clear hK K
    refine wpPre_step rfl (fun K hK => ?_)
    go_simp
    refine hK _ ?_
    clear hK K
    refine wpPre_nil ?_
    refine wpC_step rfl (fun K hK => ?_)
    (try simp only [Oper.quietAt, Oper.quietUpon])
    go_simp
    refine ⟨_, fun _ => rfl, hK _ ?_⟩
    clear hK K
    refine wpC_nil ?_
    clear ux0 ux1 ux2 uxl hCE
    refine wpCh_step rfl rfl noneF_ext (fun w7 hE7 _ => ?_) (fun v48 => ?_)
    · simp only [runsAt]
      go_simp
      exact ⟨ext_trans hE7 (ext_alloc (ext_refl _) _), w7.heap.size, rfl, ext_size hE7, heap_alloc_new w7 _⟩
    refine wpCh_step rfl rfl rowF_ext (fun w7 hE7 hR7 => ?_) (fun v50 => ?_)
    · refine runs_append (t := 60) (.tmp 48) (.tmp 49) rfl rfl rfl ?_
      obtain ⟨v', w', h1, h2, h3⟩ := append_onto tpAR 60 w6.heap.size _ _ [] LA w7 (noneF_row hR7) (srcOf_acts (rdAR_ext HAB.out.1 hE7)) (by rw [List.length_nil]; omega) (ext_size hE7)
      exact ⟨v', w', h1, ext_of_upd (upd_trans (upd_of_ext hE7) (upd_grown h3) (fun i hi e => absurd hi (by have := (noneF_row hR7).2 _ e; omega))), h2⟩
    refine wpCh_step rfl rfl rowF_ext (fun w7 hE7 hR7 => ?_) (fun v52 => ?_)
    · refine runs_append (t := 60) (.tmp 50) (.tmp 51) rfl rfl rfl ?_
      obtain ⟨v', w', h1, h2, h3⟩ := append_onto tpAR 60 w6.heap.size _ _ LA LB w7 hR7 (srcOf_acts (rdAR_ext HAB.out.2 hE7)) (by omega) (ext_size hE7)
      exact ⟨v', w', h1, ext_of_upd (upd_trans (upd_of_ext hE7) (upd_grown h3) (fun i hi e => absurd hi (by have := hR7.2 _ e; omega))), h2⟩
    refine wpCh_step rfl rfl foT_ext (fun w7 hE7 hR7 => ?_) (fun v53 => ?_)
    · simp only [runsAt]
      go_simp
      refine (forest_any t _ _ (LA ++ LB) w7 (PV_ext HP6.out hE7) HZ.out (rdAR_row hR7.1 (fun x hx => (List.mem_append.1 hx).elim (HOK.out.1 x) (HOK.out.2 x))) (by rw [List.length_append]; omega)).mono ?_
      rintro e w8 ⟨wv, L8, ve8, rfl, hF8, hE8⟩
      exact ⟨_, rfl, ext_trans hE7 hE8, wv, L8, ve8, _, rfl, foR_low hF8 (ext_size hE7)⟩
    refine wpCh_nil (fun w7 hE7 hR7 => ?_)
    obtain ⟨w0', L', ve', N', rfl, hF7⟩ := hR7
    have HF7 := Lib.hid hF7
    have HE7 := Lib.hid (ext_trans HE6.out hE7)
    have HF6' := Lib.hid (foR_ext HF6.out hE7)
    clear hF7 hE7
    repeat (refine wpPre_step rfl (fun K hK => ?_); go_simp; refine hK _ ?_; clear hK K)
    refine wpPre_nil ?_
    go_wp2_with fail
    refine (pairs_foR HF7.out (edsL_nd _) (Nat.le_trans (edsL_len _) (by rw [List.length_append]; omega))).mono ?_
    rintro e w8 ⟨bq, NB, pb, rfl, hQb, hPb, -, hE8⟩
    have HQB := Lib.hid hQb
    have HPB := Lib.hid hPb
    have HF8 := Lib.hid (foR_ext HF6'.out hE8)
    have HE8 := Lib.hid (ext_trans HE7.out hE8)
    clear hQb hPb hE8
    go_wp2_with fail
    refine (pairs_foR HF8.out (edsL_nd _) (Nat.le_trans (edsL_len _) (by omega))).mono ?_
    rintro e w9 ⟨bp, NA, pa, rfl, hQa, hPa, hsa, hE9⟩
    have hne : bq ≠ bp := fun e => by have := mapG_lt HQB.out; omega
    have HNE := Lib.hid hne
    have HQA := Lib.hid hQa
    have HPA := Lib.hid hPa
    have HQB9 := Lib.hid (mapG_ext HQB.out hE9)
    have HE9 := Lib.hid (ext_trans HE8.out hE9)
    clear hQa hPa hE9 hne hsa
    go_wp2_with (first
      | (at_range; refine wpList_range_G _ rfl _ _ rfl Try.underlying65 rfl HQA.out ?_; intro wr r hr0; have HLR := Lib.hid hr0; clear hr0; intro hrng hEr hs2)
      | go_in)
    have HRN := Lib.hid hrng
    have HER := Lib.hid hEr
    clear hrng hEr hs2
    go_simp
    go_loopw [15] (fun _ wn => ∃ (done : List Two), RngG kQ eI bp r NA pa done wn ∧ Ext w9 wn) (fun _ wn => wn.rangeLeft bp r)
    case atStart => exact ⟨[], HRN.out, HER.out⟩
    case round =>
      rename World => wn
      obtain ⟨done, hR, hE⟩ := hrel
      have HR := Lib.hid hR
      have HE := Lib.hid hE
      clear hR hE
      go_wp2_with (first
        | (at_next; refine wpList_next_G wn rfl _ rfl rfl HR.out ?_ ?_)
        | go_in)
      · intro hall
        have HF := Lib.hid (ext_trans HE9.out HE.out)
        clear hall
        go_wp2
        refine bodyPost_ret (results_tmp rfl _ _ _) rfl ?_
        exact ⟨rfl, HF.out⟩
      · intro x lasts w3' hfx hnx hR3 hlt3 hg3 hs3 hent
        rw [show kQ.val x = .agg #[.int .i64 x.a, .int .i64 x.b] from rfl, show eI.val lasts = .int .i64 lasts from rfl] at hent ⊢
        obtain ⟨xa, xb⟩ := x
        obtain ⟨u, hu, hlu⟩ := prsOf_le HPA.out HPB.out (leG_more LA LB) hfx
        have hE3 : Ext w9 w3' := ext_of_upd (upd_trans (upd_of_ext HE.out) (upd_grown hg3) (fun j hj e => absurd hj (by have h5 : r = j := Option.some.inj e; have := HLR.out; omega)))
        have hok : ok2 ⟨xa, xb⟩ := (mapG_out HQA.out hfx).1
        have hlk : (Instr.lookup 65 (.map (some bq)) (.agg #[.int .i64 xa, .int .i64 xb]) true).run Try.prog (w3'.alloc (.cells #[.int .i64 xa, .int .i64 xb] 68)) = .ok (.tuple #[.int .i64 u, .bool true]) (w3'.alloc (.cells #[.int .i64 xa, .int .i64 xb] 68)) := by
          have h3 := look2_G Try.underlying65 (mapG_ext HQB9.out (ext_trans hE3 (ext_alloc (ext_refl _) (.cells #[.int .i64 xa, .int .i64 xb] 68)))) (x := ⟨xa, xb⟩) hok
          rw [hu] at h3
          exact h3
        have HR3 := Lib.hid (rngG_ext hR3 (ext_alloc (ext_refl _) (.cells #[.int .i64 xa, .int .i64 xb] 68)))
        have HL3 := Lib.hid (show (w3'.alloc (.cells #[.int .i64 xa, .int .i64 xb] 68)).rangeLeft bp r < wn.rangeLeft bp r by rw [left_ext hR3 (ext_alloc (ext_refl _) _)]; exact hlt3)
        have HE3 := Lib.hid (ext_trans hE3 (ext_alloc (ext_refl _) (.cells #[.int .i64 xa, .int .i64 xb] 68)))
        have hlt : ¬ u < lasts := by omega
        clear hfx hnx hR3 hlt3 hg3 hs3 hu hE3 hok
        go_wp2
        go_roundw
        case rel => exact ⟨_, HR3.out, HE3.out⟩
        case measure => exact HL3.out
  · have hzb : decide (chk t = 0) = false := by simpa using hz
    go_wp2
    refine bodyPost_ret (results_tmp rfl _ _ _) rfl ?_
    exact ⟨rfl, HE5.out⟩
end Go.Proofs.Ytiabmdboacpmcaa
/- Has, walked; bounds of edges; the pairs of a path are one. -/
namespace Go.Proofs.Ytiabmdboacpmcaa
open Go Go.RowKit Go.Sort Go.WideMaps Go.Maps
set_option maxHeartbeats 4000000

theorem addL_mem : ∀ {E : List Ed} {k : Key} {u : Int} {e : Ed}, e ∈ addL E k u → e ∈ E ∨ (e.1 = k ∧ e.2 = u)
  | [], k, u, e, h => by
    simp only [addL, List.mem_singleton] at h
    subst h
    exact .inr ⟨rfl, rfl⟩
  | x :: L, k, u, e, h => by
    rw [addL] at h
    split at h
    · rename_i hx
      rcases List.mem_cons.1 h with h | h
      · subst h
        simp only
        split
        · exact .inr ⟨hx, rfl⟩
        · exact .inl (List.mem_cons_self ..)
      · exact .inl (List.mem_cons_of_mem _ h)
    · rcases List.mem_cons.1 h with h | h
      · exact .inl (by rw [h]; exact List.mem_cons_self ..)
      · rcases addL_mem h with h1 | h1
        · exact .inl (List.mem_cons_of_mem _ h1)
        · exact .inr h1
/-- an edge of small numbers -/
def smallE (e : Ed) : Prop := 0 ≤ e.1.a ∧ e.1.a < 5 ∧ 0 ≤ e.1.b ∧ e.1.b < 5 ∧ 0 ≤ e.1.c ∧ e.1.c < 5 ∧ -1000 < e.2 ∧ e.2 < 1000
theorem foldl_small : ∀ (L : List AR) (E : List Ed), (∀ e ∈ E, smallE e) → ∀ e ∈ L.foldl (fun E x => addL E (absK x.key) (untZ x.till)) E, smallE e
  | [], _, h => h
  | x :: L, E, h => foldl_small L _ (fun e he => by
    rcases addL_mem he with h1 | ⟨h1, h2⟩
    · exact h e h1
    · have ha := absZ_le x.key.a
      have hb := absZ_le x.key.b
      have hc := absZ_le x.key.c
      have hu := untZ_le x.till
      unfold smallE
      rw [h1, h2]
      unfold absK
      simp only
      omega)
theorem edsL_small (L : List AR) : ∀ e ∈ edsL L, smallE e := foldl_small L [] (fun e he => by cases he)
theorem smallE_ok {e : Ed} (h : smallE e) : ok3 e.1 ∧ okI e.2 := by
  obtain ⟨h1, h2, h3, h4, h5, h6, h7, h8⟩ := h
  exact ⟨⟨okI_iff.2 (by omega), okI_iff.2 (by omega), okI_iff.2 (by omega)⟩, okI_iff.2 (by omega)⟩
theorem prs_one {L : List Sy → Prop} {E : Gr3} {p p' : Prs} (h : PrsOf L E p) (h' : PrsOf L E p') (q : Two) : p q = p' q := by
  obtain ⟨x, y⟩ := q
  cases hp : p ⟨x, y⟩ with
  | some v => exact ((h'.is x y v).2 ((h.is x y v).1 hp)).symm
  | none =>
    cases hp' : p' ⟨x, y⟩ with
    | none => rfl
    | some v =>
      have := (h.is x y v).2 ((h'.is x y v).1 hp')
      rw [hp] at this
      cases this
set_option maxRecDepth 100000 in
theorem has_foR {t : Tr} {E : List Ed} {H N : Nat} {w0 : World} {L : Loc} {ve : Value} {w : World} {p : Prs} (x y : Int) (h : FoR t E H N w0 L ve w) (hnd : KeysNd E) (hl : E.length ≤ 100) (hx : okI x) (hy : okI y) (hp : PrsOf (Words t) (grOf E) p) :
    Calls Try.prog 40 #[ptr L.pf, .int .i64 x, .int .i64 y] w fun e w' => e = .returned (.bool (p ⟨x, y⟩).isSome) ∧ Ext w w' := by
  have HP := Lib.hid (pairs_foR h hnd hl)
  have HX := Lib.hid (show ok2 ⟨x, y⟩ from ⟨hx, hy⟩)
  have HPP := Lib.hid hp
  clear h hnd hl hx hy hp
  go_enter Try.func40, Try.ntmps40
  go_wp2_with fail
  refine HP.out.mono ?_
  rintro e w1 ⟨qb, Nq, p', rfl, hQ, hP, -, hE⟩
  have hpe := prs_one hP HPP.out ⟨x, y⟩
  have HE := Lib.hid hE
  cases hpc : p ⟨x, y⟩ with
  | none =>
    have HB := Lib.hid (show (p ⟨x, y⟩).isSome = false by rw [hpc]; rfl)
    have hlk : (Instr.lookup 65 (.map (some qb)) (.agg #[.int .i64 x, .int .i64 y]) true).run Try.prog w1 = .ok (.tuple #[.int .i64 0, .bool false]) w1 := by
      have h3 := look2_G Try.underlying65 hQ (x := ⟨x, y⟩) HX.out
      rw [hpe, hpc] at h3
      exact h3
    clear hQ hP hpe hE hpc
    go_wp2
    refine bodyPost_ret (results_tmp rfl _ _ _) rfl ?_
    exact ⟨by rw [HB.out]; rfl, HE.out⟩
  | some v =>
    have HB := Lib.hid (show (p ⟨x, y⟩).isSome = true by rw [hpc]; rfl)
    have hlk : (Instr.lookup 65 (.map (some qb)) (.agg #[.int .i64 x, .int .i64 y]) true).run Try.prog w1 = .ok (.tuple #[.int .i64 v, .bool true]) w1 := by
      have h3 := look2_G Try.underlying65 hQ (x := ⟨x, y⟩) HX.out
      rw [hpe, hpc] at h3
      exact h3
    clear hQ hP hpe hE hpc
    go_wp2
    refine bodyPost_ret (results_tmp rfl _ _ _) rfl ?_
    exact ⟨by rw [HB.out]; rfl, HE.out⟩
end Go.Proofs.Ytiabmdboacpmcaa
/- New of a path that may not be; a forest by itself; From. -/
namespace Go.Proofs.Ytiabmdboacpmcaa
open Go Go.RowKit Go.Sort Go.WideMaps Go.Maps
set_option maxHeartbeats 4000000

set_option maxRecDepth 100000 in
theorem new_no (t : Tr) (v : Value) (room : Int) (w : World) (hv : PV w t v) (hN : sizeT t ≤ 100000) (hc : chk t ≠ 0) : Calls Try.prog 41 #[v, .int .i64 room] w fun e w' => ∃ c : Int, c ≠ 0 ∧ e = .returned (.tuple #[.pointer none, .int .i64 c]) ∧ Ext w w' := by
  have HV := Lib.hid hv
  have CC := Lib.hid (fun w1 (hE : Ext w w1) => compile_no t v w1 hN (PV_ext hv hE) hc)
  obtain ⟨kd, nn, A0, n0, c0, rfl⟩ : ∃ k n A l c, v = .agg #[.int .i64 k, .int .i64 n, .slice A l c] := by
    obtain ⟨k, n, ps⟩ := t
    obtain ⟨s, rfl, hs⟩ := hv
    obtain ⟨A, c, rfl⟩ := PS_form hs
    exact ⟨k, n, A, _, c, rfl⟩
  have HC := Lib.hid hc
  have HE0 := Lib.hid (ext_alloc (ext_refl w) (.cells #[.int .i64 kd, .int .i64 nn, .slice A0 n0 c0] 30))
  clear hv hN
  go_enter Try.func41, Try.ntmps41
  go_wp2_with fail
  refine (CC.out _ HE0.out).mono ?_
  rintro e w2 ⟨rfl, hE2⟩
  have HE2 := Lib.hid (ext_trans HE0.out hE2)
  clear hE2
  go_wp2
  refine bodyPost_ret (v := .tuple #[.pointer none, .int .i64 (chk t)]) (by simp [results, Try.results41, go_sem]) rfl ?_
  exact ⟨_, HC.out, rfl, HE2.out⟩
/-- a forest by itself -/
def FoX (t : Tr) (E : List Ed) (H N : Nat) (w0 : World) (L : Loc) (w : World) : Prop := ∃ F, Fo t w0 L 100 minI (grOf E) F w ∧ ∀ b, F b → H ≤ b ∧ b < N
theorem foX_ext {t : Tr} {E : List Ed} {H N : Nat} {w0 : World} {L : Loc} {w w' : World} (h : FoX t E H N w0 L w) (hE : Ext w w') : FoX t E H N w0 L w' := by
  obtain ⟨F, h1, h2⟩ := h
  exact ⟨F, fo_ext h1 hE, h2⟩
theorem foX_up {t : Tr} {E : List Ed} {H N N' : Nat} {w0 : World} {L : Loc} {w : World} (h : FoX t E H N w0 L w) (hN : N ≤ N') : FoX t E H N' w0 L w := by
  obtain ⟨F, h1, h2⟩ := h
  exact ⟨F, h1, fun b hb => ⟨(h2 b hb).1, Nat.lt_of_lt_of_le (h2 b hb).2 hN⟩⟩
theorem pairs_foX {t : Tr} {E : List Ed} {H N : Nat} {w0 : World} {L : Loc} {w : World} (h : FoX t E H N w0 L w) (hnd : KeysNd E) (hl : E.length ≤ 100) : Calls Try.prog 38 #[ptr L.pf] w (PairsTo t (grOf E) w) := by
  obtain ⟨F, h1, _⟩ := h
  exact pairs_any t w0 L 100 minI (grOf E) F (E.map (·.1)) w h1 (card_of hnd) (by rw [List.length_map]; exact hl)
theorem add_foX {t : Tr} {E : List Ed} {H N : Nat} {w0 : World} {L : Loc} {k : Key} {u : Int} {w : World} (h : FoX t E H N w0 L w) (hN : N ≤ w.heap.size) (hnd : KeysNd E) (hl : E.length ≤ 90) (hk : ok3 k) (hu : okI u) (hr : rightB k u = true) :
    Calls Try.prog 42 #[ptr L.pf, k3 k, .int .i64 u] w fun e w' => e = .returned (.int .i64 0) ∧ FoX t (addL E k u) H w'.heap.size w0 L w' ∧ Upd (fun b => H ≤ b ∧ b < N) w w' := by
  obtain ⟨F, h1, h2⟩ := h
  obtain ⟨W0, hM⟩ := h1.mach
  have hadd := add_any w0 W0 L 100 minI (grOf E) _ 0 (enT t) (mvT t) F (E.map (·.1)) k u w h1.form (machT_mach hM) (card_of hnd) (by rw [List.length_map]; omega) hk hu
  obtain ⟨hs1, hs2⟩ := add_same (L := E) (k := k) (u := u) (h := minI) (room := 100) (N := (E.map (·.1)).length) hr (by rw [List.length_map]; omega) (by unfold minI; have := okI_iff.1 hu; omega)
  refine hadd.mono ?_
  rintro e w' ⟨rfl, hF, hU⟩
  rw [hs1] at hF
  rw [hs2]
  have hsz := hU.size
  have hlow : ∃ c, F c ∧ H ≤ c := by
    obtain ⟨S, f, hm, _⟩ := h1.form.ex
    exact ⟨L.pf, hm.own.1, (h2 _ hm.own.1).1⟩
  refine ⟨rfl, ⟨fun b => F b ∨ (w.heap.size ≤ b ∧ b < w'.heap.size), ⟨h1.mach, forM_own hF (fun b hb hf => ?_)⟩, fun b hb => ?_⟩, upd_mono hU (fun b _ hf => h2 b hf)⟩
  · rcases hf with hf | hf
    · exact .inl hf
    · exact .inr ⟨hf, hb⟩
  · rcases hb with hb | hb
    · have := h2 b hb; have := hU.size; omega
    · obtain ⟨c, hc1, hc2⟩ := hlow
      have := (h2 c hc1).2
      exact ⟨by omega, hb.2⟩
theorem has_foX {t : Tr} {E : List Ed} {H N : Nat} {w0 : World} {L : Loc} {w : World} {p : Prs} (x y : Int) (h : FoX t E H N w0 L w) (hnd : KeysNd E) (hl : E.length ≤ 100) (hx : okI x) (hy : okI y) (hp : PrsOf (Words t) (grOf E) p) :
    Calls Try.prog 40 #[ptr L.pf, .int .i64 x, .int .i64 y] w fun e w' => e = .returned (.bool (p ⟨x, y⟩).isSome) ∧ Ext w w' := by
  have HP := Lib.hid (pairs_foX h hnd hl)
  have HX := Lib.hid (show ok2 ⟨x, y⟩ from ⟨hx, hy⟩)
  have HPP := Lib.hid hp
  clear h hnd hl hx hy hp
  go_enter Try.func40, Try.ntmps40
  go_wp2_with fail
  refine HP.out.mono ?_
  rintro e w1 ⟨qb, Nq, p', rfl, hQ, hP, -, hE⟩
  have hpe := prs_one hP HPP.out ⟨x, y⟩
  have HE := Lib.hid hE
  cases hpc : p ⟨x, y⟩ with
  | none =>
    have HB := Lib.hid (show (p ⟨x, y⟩).isSome = false by rw [hpc]; rfl)
    have hlk : (Instr.lookup 65 (.map (some qb)) (.agg #[.int .i64 x, .int .i64 y]) true).run Try.prog w1 = .ok (.tuple #[.int .i64 0, .bool false]) w1 := by
      have h3 := look2_G Try.underlying65 hQ (x := ⟨x, y⟩) HX.out
      rw [hpe, hpc] at h3
      exact h3
    clear hQ hP hpe hE hpc
    go_wp2
    refine bodyPost_ret (results_tmp rfl _ _ _) rfl ?_
    exact ⟨by rw [HB.out]; rfl, HE.out⟩
  | some v =>
    have HB := Lib.hid (show (p ⟨x, y⟩).isSome = true by rw [hpc]; rfl)
    have hlk : (Instr.lookup 65 (.map (some qb)) (.agg #[.int .i64 x, .int .i64 y]) true).run Try.prog w1 = .ok (.tuple #[.int .i64 v, .bool true]) w1 := by
      have h3 := look2_G Try.underlying65 hQ (x := ⟨x, y⟩) HX.out
      rw [hpe, hpc] at h3
      exact h3
    clear hQ hP hpe hE hpc
    go_wp2
    refine bodyPost_ret (results_tmp rfl _ _ _) rfl ?_
    exact ⟨by rw [HB.out]; rfl, HE.out⟩
/-- the ends of what a node is paired with, as they came -/
def toL (x : Int) (done : List Two) : List Nat := (done.filter fun q => decide (q.a = x)).map fun q => q.b.toNat
theorem toL_snoc (x : Int) (done : List Two) (q : Two) : toL x (done ++ [q]) = toL x done ++ if q.a = x then [q.b.toNat] else [] := by
  unfold toL
  rw [List.filter_append, List.map_append]
  by_cases h : q.a = x
  · simp [h]
  · simp [h]
def FromTo (p : Prs) (x : Int) (w : World) (e : Ending) (w' : World) : Prop := ∃ v R, e = .returned v ∧ rowF elN w.heap.size R v w' ∧ R.Pairwise (· < ·) ∧ (∀ m : Nat, m ∈ R ↔ (p ⟨x, (m : Int)⟩).isSome = true) ∧ Ext w w'
theorem toL_rise {x : Int} {done : List Two} (hnd : done.Nodup) (hp : ∀ q ∈ done, 0 ≤ q.b) : (sortN (toL x done)).Pairwise (· < ·) := by
  have hN : (toL x done).Nodup := by
    unfold toL
    refine List.pairwise_map.2 (List.Pairwise.imp_of_mem (fun {a b} ha hb hne e => ?_) (List.Pairwise.sublist (List.filter_sublist ..) hnd))
    have h1 := of_decide_eq_true (List.mem_filter.1 ha).2
    have h2 := of_decide_eq_true (List.mem_filter.1 hb).2
    have h3 := hp a (List.mem_filter.1 ha).1
    have h4 := hp b (List.mem_filter.1 hb).1
    obtain ⟨a1, a2⟩ := a
    obtain ⟨b1, b2⟩ := b
    simp only at h1 h2 h3 h4 e
    exact hne (by rw [h1, h2, show a2 = b2 by omega])
  have h5 := (sortN_perm (toL x done)).nodup_iff.2 hN
  exact (List.Pairwise.and (sortN_sorted _) h5).imp (fun {a b} h => by
    obtain ⟨h1, h2⟩ := h
    have h3 : a ≠ b := h2
    omega)
theorem nodup2J_le : ∀ {L M : List Two}, L.Nodup → (∀ x ∈ L, x ∈ M) → L.length ≤ M.length
  | [], _, _, _ => Nat.zero_le _
  | x :: L, M, hL, h => by
    obtain ⟨h1, h2⟩ := List.nodup_cons.1 hL
    have hx := h x (List.mem_cons_self ..)
    have := nodup2J_le (M := M.erase x) h2 (fun y hy => (List.mem_erase_of_ne (a := y) (b := x) (fun (e : y = x) => h1 (by rw [← e]; exact hy))).2 (h y (List.mem_cons_of_mem _ hy)))
    rw [List.length_erase_of_mem hx] at this
    have := List.length_pos_of_mem hx
    rw [List.length_cons]
    omega
/-- pairs of small numbers are few -/
theorem few_prs {t : Tr} {E : List Ed} {p : Prs} {qb N : Nat} {w : World} (hnd : KeysNd E) (hsm : ∀ e ∈ E, smallE e) (hp : PrsOf (Words t) (grOf E) p) (hm : MapQ qb N p w) : N ≤ 1000 := by
  obtain ⟨X, hX1, hX2, hX3⟩ := mapG_keys hm
  rw [← hX3]
  have h5 : ∀ z : Int, isNode (grOf E) z → 0 ≤ z ∧ z < 5 := fun z hz => by
    obtain ⟨k, u, h1, h2⟩ := hz
    have h3 := hsm _ ((grOf_some hnd).1 h1)
    unfold smallE at h3
    simp only at h3
    omega
  have h6 := nodup2J_le hX1 (M := (List.range 25).map fun i => (⟨((i / 5 : Nat) : Int), ((i % 5 : Nat) : Int)⟩ : Two)) (fun q hq => by
    obtain ⟨v, hv⟩ := Option.isSome_iff_exists.1 ((hX2 q).1 hq)
    obtain ⟨a, b⟩ := q
    obtain ⟨n1, n2⟩ := lead_nodes ((hp.is a b v).1 hv).1
    have ha := h5 a n1
    have hb := h5 b n2
    refine List.mem_map.2 ⟨a.toNat * 5 + b.toNat, List.mem_range.2 (by omega), ?_⟩
    simp only [Two.mk.injEq]
    omega)
  rw [List.length_map, List.length_range] at h6
  omega
set_option maxRecDepth 100000 in
theorem from_foX {t : Tr} {E : List Ed} {H N : Nat} {w0 : World} {L : Loc} {w : World} {p : Prs} (x : Int) (h : FoX t E H N w0 L w) (hnd : KeysNd E) (hsm : ∀ e ∈ E, smallE e) (hl : E.length ≤ 100) (hp : PrsOf (Words t) (grOf E) p) :
    Calls Try.prog 44 #[ptr L.pf, .int .i64 x] w (FromTo p x w) := by
  have HPA := Lib.hid (pairs_foX h hnd hl)
  have HPP := Lib.hid hp
  have HKS := Lib.hid (And.intro hnd hsm)
  have HSM := Lib.hid (show ∀ x y, (p ⟨x, y⟩).isSome = true → 0 ≤ y from fun x y hs => by
    obtain ⟨v, hv⟩ := Option.isSome_iff_exists.1 hs
    obtain ⟨k, u, h1, h2⟩ := (lead_nodes ((hp.is x y v).1 hv).1).2
    have h3 := hsm _ ((grOf_some hnd).1 h1)
    unfold smallE at h3
    simp only at h3
    omega)
  clear h hnd hl hp hsm
  go_enter Try.func44, Try.ntmps44
  go_wp2_with fail
  refine HPA.out.mono ?_
  rintro e w1 ⟨qb, NQ, p', rfl, hQ, hP, -, hE1⟩
  obtain rfl : p' = p := funext fun q => prs_one hP HPP.out q
  have HNQ := Lib.hid (few_prs HKS.out.1 HKS.out.2 hP hQ)
  have HQ := Lib.hid hQ
  have HE1 := Lib.hid hE1
  clear hQ hP hE1 HPA
  go_wp2_with (first
    | (at_range; refine wpList_range_G _ rfl _ _ rfl Try.underlying65 rfl HQ.out ?_; intro wr r hr0; have HLR := Lib.hid hr0; clear hr0; intro hrng hEr hs2)
    | go_in)
  have HRN := Lib.hid hrng
  have HER := Lib.hid hEr
  clear hrng hEr hs2
  go_simp
  go_loopw [5] (fun y wn => ∃ (done : List Two), RngG kQ eI qb r NQ p' done wn ∧ done.Nodup ∧ (∀ q ∈ done, 0 ≤ q.b ∧ (p' q).isSome = true) ∧ done.length ≤ NQ ∧ ∃ vo, y = vo ∧ rowF elN w.heap.size (toL x done) vo wn ∧ Ext w wn) (fun _ wn => wn.rangeLeft qb r)
  case atStart => exact ⟨[], HRN.out, List.nodup_nil, (fun q hq => by cases hq), Nat.zero_le _, _, rfl, rowF_nil _ _, ext_trans HE1.out HER.out⟩
  case round =>
    rename World => wn
    obtain ⟨done, hR, hnd, hdn, hdl, vo, rfl, hro, hE⟩ := hrel
    have HR := Lib.hid hR
    have HE := Lib.hid hE
    have HRO := Lib.hid hro
    have HDN := Lib.hid (And.intro hnd (And.intro hdn hdl))
    clear hR hE hro hnd hdn hdl
    go_wp2_with (first
      | (at_next; refine wpList_next_G wn rfl _ rfl rfl HR.out ?_ ?_)
      | go_in)
    · intro hall
      have HALL := Lib.hid hall
      clear hall
      go_wp2_with fail
      refine (sortN_any w.heap.size _ (toL x done) wn HRO.out (by
        have h1 := HDN.out.2.2
        have h2 : (toL x done).length ≤ done.length := by unfold toL; rw [List.length_map]; exact List.length_filter_le ..
        have := HNQ.out
        omega)).mono ?_
      rintro e w9 ⟨rfl, hr9, hU9⟩
      have HF := Lib.hid (show FromTo p' x w (.returned u5) w9 from ⟨_, _, rfl, hr9, toL_rise HDN.out.1 (fun q hq => (HDN.out.2.1 q hq).1), fun m => by
        rw [(sortN_perm _).mem_iff]
        unfold toL
        rw [List.mem_map]
        constructor
        · rintro ⟨q, hq, rfl⟩
          obtain ⟨h1, h2⟩ := List.mem_filter.1 hq
          have h3 := of_decide_eq_true h2
          obtain ⟨h4, h5⟩ := HDN.out.2.1 q h1
          obtain ⟨q1, q2⟩ := q
          simp only at h3 h4
          rw [← h3, show ((q2.toNat : Nat) : Int) = q2 by omega]
          exact h5
        · intro hs
          exact ⟨⟨x, (m : Int)⟩, List.mem_filter.2 ⟨HALL.out _ hs, by simp⟩, by simp⟩, ext_of_upd (upd_trans (upd_of_ext HE.out) hU9 (fun i hi e => absurd hi (by have := HRO.out.2 _ e; omega)))⟩)
      clear hr9 hU9
      go_wp2
      refine bodyPost_ret (results_tmp rfl _ _ _) rfl ?_
      exact HF.out
    · intro q lasts w3' hfx hnx hR3 hlt3 hg3 hs3 hent
      rw [show kQ.val q = .agg #[.int .i64 q.a, .int .i64 q.b] from rfl, show eI.val lasts = .int .i64 lasts from rfl] at hent ⊢
      obtain ⟨xa, xb⟩ := q
      have hb0 := HSM.out xa xb (by rw [hfx]; rfl)
      obtain ⟨m, rfl⟩ := Int.eq_ofNat_of_zero_le hb0
      obtain ⟨wa, hwa⟩ : ∃ wa, wa = w3'.alloc (.cells #[.int .i64 xa, .int .i64 (m : Int)] 68) := ⟨_, rfl⟩
      have hEa : Ext w3' wa := by rw [hwa]; exact ext_alloc (ext_refl _) _
      obtain ⟨bx, hbx⟩ : ∃ b, b = w3'.heap.size := ⟨_, rfl⟩
      have hxa : wa.heap[bx]? = some (.cells #[.int .i64 xa, .int .i64 (m : Int)] 68 (0, 0)) := by rw [hwa, hbx]; exact heap_alloc_new _ _
      have hro3 : rowF elN w.heap.size (toL x done) u5 wa := by
        have h1 := (upd_grown hg3)
        refine rowF_ext _ _ _ hEa ⟨rowE_upd HRO.out.1 h1 (fun b hb e => ?_), HRO.out.2⟩
        obtain ⟨_, cur, hcur⟩ := rowE_block HRO.out.1 hb
        exact (rngG_off HR.out hcur).2 (Option.some.inj e).symm
      have HRA := Lib.hid (rngG_ext hR3 hEa)
      have HLA := Lib.hid (show wa.rangeLeft qb r < wn.rangeLeft qb r by rw [left_ext hR3 hEa]; exact hlt3)
      have HEA := Lib.hid (show Ext w wa from ext_of_upd (upd_trans (upd_trans (upd_of_ext HE.out) (upd_grown hg3) (fun j hj e => absurd hj (by have h5 : r = j := Option.some.inj e; have := HLR.out; have := ext_size HE1.out; omega))) (upd_of_ext (fp := fun _ => False) hEa) (fun _ _ h => h.elim)))
      have HROA := Lib.hid hro3
      have HXA := Lib.hid hxa
      have HFX := Lib.hid hfx
      have HND2 := Lib.hid (show (done ++ [(⟨xa, (m : Int)⟩ : Two)]).Nodup ∧ (∀ q ∈ done ++ [(⟨xa, (m : Int)⟩ : Two)], 0 ≤ q.b ∧ (p' q).isSome = true) ∧ (done ++ [(⟨xa, (m : Int)⟩ : Two)]).length ≤ NQ from by
        have hn2 : (done ++ [(⟨xa, (m : Int)⟩ : Two)]).Nodup := List.nodup_append.2 ⟨HDN.out.1, List.nodup_cons.2 ⟨by simp, List.nodup_nil⟩, fun a ha b hb => by rw [List.mem_singleton.1 hb]; exact fun e1 => hnx (e1 ▸ ha)⟩
        have hm2 : ∀ q ∈ done ++ [(⟨xa, (m : Int)⟩ : Two)], 0 ≤ q.b ∧ (p' q).isSome = true := fun q hq => by
          rcases List.mem_append.1 hq with h | h
          · exact HDN.out.2.1 q h
          · rw [List.mem_singleton.1 h, hfx]
            exact ⟨hb0, rfl⟩
        refine ⟨hn2, hm2, ?_⟩
        obtain ⟨X, hX1, hX2, hX3⟩ := mapG_keys HQ.out
        rw [← hX3]
        exact nodup2J_le hn2 (fun z hz => (hX2 z).2 (hm2 z hz).2))
      clear hfx hnx hR3 hlt3 hg3 hs3 hEa hro3 hb0
      have HTO := Lib.hid (toL_snoc x done ⟨xa, (m : Int)⟩)
      have HWA := Lib.hid (And.intro hwa hbx)
      clear hwa hbx hxa
      by_cases hxx : xa = x
      · have HTO := Lib.hid (show toL x (done ++ [⟨xa, (m : Int)⟩]) = toL x done ++ [m] by rw [HTO.out, if_pos hxx]; rfl)
        have hxx' := hxx.symm
        clear hxx
        subst hxx'
        go_wp2_with (at_builtin; refine halt_here ?_)
        refine go_on ?_
        rw [← HWA.out.1]
        obtain ⟨wb, hwb⟩ : ∃ wb, wb = wa.alloc (.cells #[.int .i64 (m : Int)] 3) := ⟨_, rfl⟩
        have hEb : Ext wa wb := by rw [hwb]; exact ext_alloc (ext_refl _) _
        have hon : oneF elN w.heap.size m (.slice (some ⟨wa.heap.size, 0, none⟩) 1 1) wb := ⟨wa.heap.size, rfl, ext_size HEA.out, by rw [hwb]; exact heap_alloc_new _ _⟩
        have hsw : w3'.heap.size + 1 = wa.heap.size := by rw [HWA.out.1]; simp
        rw [← hwb]
        have hlen : (toL x done).length ≤ 1000 := by
          have h1 := HDN.out.2.2
          have h2 : (toL x done).length ≤ done.length := by unfold toL; rw [List.length_map]; exact List.length_filter_le ..
          have := HNQ.out
          omega
        refine wpList_append rfl (.tmp 18) (.tmp 21) rfl u5 (.slice (some ⟨wa.heap.size, 0, none⟩) 1 1) rfl (by first | rfl | (rw [← hsw]; rfl)) (fun v' w' => rowF elN w.heap.size (toL x done ++ [m]) v' w' ∧ wb.grownBy w' u5.ownBlock) (append_onto tpN _ w.heap.size _ _ (toL x done) [m] wb (rowF_ext _ _ _ hEb HROA.out) (srcOf_one hon) (by simp only [List.length_cons, List.length_nil]; omega) (ext_size (ext_trans HEA.out hEb))) ?_
        rintro v7 w7 ⟨hr7, hg7⟩
        have hU7 := upd_grown hg7
        have HR7 := Lib.hid hr7
        have HG7 := Lib.hid (show RngG kQ eI qb r NQ p' (done ++ [⟨x, (m : Int)⟩]) w7 from rngG_upd (rngG_ext HRA.out hEb) hU7 (fun e => by
          obtain ⟨_, cur, hcur⟩ := rowE_block HROA.out.1 e
          exact (rngG_off HRA.out hcur).1 rfl) (fun e => by
          obtain ⟨_, cur, hcur⟩ := rowE_block HROA.out.1 e
          exact (rngG_off HRA.out hcur).2 rfl))
        have HL7 := Lib.hid (show w7.rangeLeft qb r < wn.rangeLeft qb r by
          rw [left_upd (rngG_ext HRA.out hEb) hU7 (fun e => by
            obtain ⟨_, cur, hcur⟩ := rowE_block HROA.out.1 e
            exact (rngG_off HRA.out hcur).1 rfl) (fun e => by
            obtain ⟨_, cur, hcur⟩ := rowE_block HROA.out.1 e
            exact (rngG_off HRA.out hcur).2 rfl), left_ext HRA.out hEb]
          exact HLA.out)
        have HE7 := Lib.hid (show Ext w w7 from ext_of_upd (upd_trans (upd_of_ext (ext_trans HEA.out hEb)) hU7 (fun i hi e => absurd hi (by have := HROA.out.2 _ e; omega))))
        clear hwb hEb hon hr7 hg7 hU7 hlen
        go_simp
        go_wp2
        go_roundw
        case rel => exact ⟨_, HG7.out, HND2.out.1, HND2.out.2.1, HND2.out.2.2, _, rfl, by rw [HTO.out]; exact HR7.out, HE7.out⟩
        case measure => exact HL7.out
      · have HTO := Lib.hid (show toL x (done ++ [⟨xa, (m : Int)⟩]) = toL x done by rw [HTO.out, if_neg hxx, List.append_nil])
        go_wp2
        go_roundw
        case rel => exact ⟨_, by rw [← HWA.out.1]; exact HRA.out, HND2.out.1, HND2.out.2.1, HND2.out.2.2, _, rfl, by rw [HTO.out, ← HWA.out.1]; exact HROA.out, by rw [← HWA.out.1]; exact HEA.out⟩
        case measure => rw [← HWA.out.1]; exact HLA.out
end Go.Proofs.Ytiabmdboacpmcaa
/- ReachAsks. -/
namespace Go.Proofs.Ytiabmdboacpmcaa
open Go Go.RowKit Go.Sort Go.WideMaps Go.Maps
set_option maxHeartbeats 4000000

theorem nodupN_le : ∀ {L M : List Nat}, L.Nodup → (∀ x ∈ L, x ∈ M) → L.length ≤ M.length
  | [], _, _, _ => Nat.zero_le _
  | x :: L, M, hL, h => by
    obtain ⟨h1, h2⟩ := List.nodup_cons.1 hL
    have hx := h x (List.mem_cons_self ..)
    have := nodupN_le (M := M.erase x) h2 (fun y hy => (List.mem_erase_of_ne (a := y) (b := x) (fun (e : y = x) => h1 (by rw [← e]; exact hy))).2 (h y (List.mem_cons_of_mem _ hy)))
    rw [List.length_erase_of_mem hx] at this
    have := List.length_pos_of_mem hx
    rw [List.length_cons]
    omega
def cntA (x : Int) (done : List Two) : Nat := done.countP fun q => decide (q.a = x)
theorem cntA_le (x : Int) (done : List Two) : cntA x done ≤ done.length := List.countP_le_length
theorem cntA_snoc (x : Int) (done : List Two) (q : Two) : cntA x (done ++ [q]) = cntA x done + if q.a = x then 1 else 0 := by
  unfold cntA
  rw [List.countP_append, List.countP_cons, List.countP_nil]
  simp
theorem cntA_all {p : Prs} {x : Int} {done : List Two} {R : List Nat} (hnd : done.Nodup) (hdn : ∀ q ∈ done, (p q).isSome = true) (hall : ∀ q, (p q).isSome = true → q ∈ done) (hb : ∀ q, (p q).isSome = true → 0 ≤ q.b) (hR : R.Nodup) (hm : ∀ m : Nat, m ∈ R ↔ (p ⟨x, (m : Int)⟩).isSome = true) : cntA x done = R.length := by
  have hN : (toL x done).Nodup := by
    unfold toL
    refine List.pairwise_map.2 (List.Pairwise.imp_of_mem (fun {a b} ha hb' hne e => ?_) (List.Pairwise.sublist (List.filter_sublist ..) hnd))
    have h1 := of_decide_eq_true (List.mem_filter.1 ha).2
    have h2 := of_decide_eq_true (List.mem_filter.1 hb').2
    have h3 := hb a (hdn a (List.mem_filter.1 ha).1)
    have h4 := hb b (hdn b (List.mem_filter.1 hb').1)
    obtain ⟨a1, a2⟩ := a
    obtain ⟨b1, b2⟩ := b
    simp only at h1 h2 h3 h4 e
    exact hne (by rw [h1, h2, show a2 = b2 by omega])
  have h1 := nodup_same hN hR (fun m => by
    rw [hm]
    unfold toL
    rw [List.mem_map]
    constructor
    · rintro ⟨q, hq, rfl⟩
      obtain ⟨h1, h2⟩ := List.mem_filter.1 hq
      have h3 := of_decide_eq_true h2
      have h5 := hdn q h1
      have h4 := hb q h5
      obtain ⟨q1, q2⟩ := q
      simp only at h3 h4
      rw [← h3, show ((q2.toNat : Nat) : Int) = q2 by omega]
      exact h5
    · intro hs
      exact ⟨⟨x, (m : Int)⟩, List.mem_filter.2 ⟨hall _ hs, by simp⟩, by simp⟩)
  rw [← h1]
  unfold toL cntA
  rw [List.length_map, List.countP_eq_length_filter]
theorem foX_upd {t : Tr} {E : List Ed} {H N q : Nat} {w0 : World} {L : Loc} {w w' : World} (h : FoX t E H N w0 L w) (hU : Upd (fun b => b = q) w w') (hq : N ≤ q) : FoX t E H N w0 L w' := by
  obtain ⟨F, h1, h2⟩ := h
  refine ⟨F, fo_upd h1 hU (fun b hb e => ?_), h2⟩
  have e' : b = q := e
  obtain ⟨S, f, hm, _⟩ := h1.form.ex
  have h3 := h2 _ hm.own.1
  have h4 := hm.low.1
  rcases hb with hb | hb
  · have := h2 b hb; omega
  · omega
set_option maxRecDepth 100000 in
set_option maxHeartbeats 40000000 in
theorem asks_law (v va : Value) (L : List Nd) (LA : List AR) (qa qb' : Int) (w00 : World) (hv : RdNd w00 v L) (ha : RdAR w00 va LA) (_hqa : okI qa) (_hqb : okI qb') : Calls Try.prog 12 #[v, va, .agg #[.int .i64 qa, .int .i64 qb']] w00 fun e w' => e = .returned (.bool true) ∧ Ext w00 w' := by
  obtain ⟨w, hW⟩ : ∃ w, w = w00.alloc (.cells #[.int .i64 qa, .int .i64 qb'] 78) := ⟨_, rfl⟩
  have hEW : Ext w00 w := by rw [hW]; exact ext_alloc (ext_refl _) _
  obtain ⟨bq, hbq⟩ : ∃ b, b = w00.heap.size := ⟨_, rfl⟩
  have HQB := Lib.hid (show w.heap[bq]? = some (.cells #[.int .i64 qa, .int .i64 qb'] 78 (0, 0)) by rw [hW, hbq]; exact heap_alloc_new _ _)
  have HEW := Lib.hid hEW
  have HWW := Lib.hid (And.intro hW hbq)
  have HV := Lib.hid (rdNd_ext hv hEW)
  have HA := Lib.hid (rdAR_ext ha hEW)
  obtain ⟨A1, c1, rfl, hok1, -⟩ := ha
  obtain ⟨na, hna⟩ : ∃ n, n = LA.length := ⟨_, rfl⟩
  rw [← hna] at HA ⊢
  have HN := Lib.hid hna
  have HOK := Lib.hid hok1
  clear hv hna hok1 hW hEW hbq
  go_enter Try.func12, Try.ntmps12
  go_wp2_with fail
  rw [← HWW.out.1, ← HWW.out.2]
  refine (awake11_any _).mono ?_
  rintro e w1 ⟨rfl, hE1⟩
  have HE1 := Lib.hid hE1
  clear hE1
  by_cases hbna : (12 : Int) < (na : Int)
  · go_wp2_with fail
    refine (awake11_any _).mono ?_
    rintro e w2 ⟨rfl, hE2⟩
    have HE2 := Lib.hid (ext_trans HE1.out hE2)
    clear hE2
    go_wp2
    refine bodyPost_ret (results_tmp rfl _ _ _) rfl ?_
    exact ⟨rfl, ext_trans HEW.out HE2.out⟩
  go_wp2_with fail
  refine (fix_any v L _ (rdNd_ext HV.out HE1.out)).mono ?_
  rintro e w2 ⟨L', v', rfl, hr, hF, hl, hE2⟩
  have HR := Lib.hid hr
  have HF := Lib.hid hF
  have HE2 := Lib.hid (ext_trans HE1.out hE2)
  have hl8 : L'.length ≤ 8 := by omega
  clear hr hF hE2 hl
  go_wp2_with fail
  refine (tree_fix 8 (by decide) (by decide) v' L' _ HR.out HF.out hl8).mono ?_
  rintro e w3 ⟨rb, n, t, k, z, A, q, c, rfl, hn, hfit, hlst, hpv, hE3⟩
  obtain ⟨hfb, hch, -⟩ := fit_chk hfit (by decide)
  have hsz : sizeT t ≤ 300 := by have := hfit.2.1; omega
  have HLS := Lib.hid hlst
  have HPV := Lib.hid hpv
  have HE3 := Lib.hid (ext_trans HE2.out hE3)
  clear hfit hlst hpv hE3 hfb hl8
  go_wp2_with fail
  have hE4 := ext_alloc (ext_refl w3) (.cells #[.int .i64 k, .int .i64 z, .slice A q c] 30)
  have hB4 := heap_alloc_new w3 (.cells #[.int .i64 k, .int .i64 z, .slice A q c] 30)
  obtain ⟨w4, hw4⟩ : ∃ w4, w4 = w3.alloc (.cells #[.int .i64 k, .int .i64 z, .slice A q c] 30) := ⟨_, rfl⟩
  obtain ⟨p6, hp6⟩ : ∃ p6, p6 = w3.heap.size := ⟨_, rfl⟩
  rw [← hw4] at hE4 hB4 ⊢
  rw [← hp6] at hB4 ⊢
  have HB4 := Lib.hid hB4
  have HE4 := Lib.hid (ext_trans HE3.out hE4)
  have HL4 := Lib.hid (lst_ext HLS.out hE4)
  have HP4 := Lib.hid (PV_ext HPV.out hE4)
  clear hw4 hp6 hE4 hB4 HLS HPV HE3
  by_cases hz : chk t = 0
  · refine (new_yes t _ 100 w4 HP4.out hz (by omega)).mono ?_
    rintro e w5 ⟨w0, Lc, rfl, hF, hE5, hE5'⟩
    have HE5 := Lib.hid (ext_trans HE4.out hE5')
    have HF5 := Lib.hid (show FoX t (edsL (LA.take 0)) w.heap.size w5.heap.size w0 Lc w5 from ⟨fun b => w.heap.size ≤ b ∧ b < w5.heap.size, fo_own hF (fun b hb hf => ⟨by have := ext_size HE4.out; omega, hb⟩), fun b hb => hb⟩)
    have HNA := Lib.hid (show LA.length ≤ 12 by rw [← HN.out]; omega)
    clear hF hE5 hE5' hz hch
    go_wp2
    go_loopw [48] (fun y wr => ∃ j : Nat, j ≤ na ∧ y = .int .i64 (j : Int) ∧ FoX t (edsL (LA.take j)) w.heap.size wr.heap.size w0 Lc wr ∧ Ext w wr) (fun y _ => na - (intOf y).toNat)
    case atStart => exact ⟨0, by omega, rfl, HF5.out, HE5.out⟩
    case round =>
      rename World => wi
      obtain ⟨j, hj, rfl, hF, hE⟩ := hrel
      have HF := Lib.hid hF
      have HE := Lib.hid hE
      clear hF hE
      by_cases hlt : j < na
      · have hji : (j : Int) < (na : Int) := by omega
        have hj0 : (0 : Int) ≤ (j : Int) := by omega
        obtain ⟨x, hx⟩ : ∃ x, LA[j]? = some x := ⟨_, List.getElem?_eq_getElem (by rw [← HN.out]; exact hlt)⟩
        obtain ⟨A', c', hv', _, hrd⟩ := rdAR_ext HA.out HE.out
        simp only [Value.slice.injEq] at hv'
        obtain ⟨rfl, -, rfl⟩ := hv'
        obtain ⟨g, off, rfl, lg, hc⟩ := hrd (fun e => by rw [e] at hx; simp at hx)
        obtain ⟨c0', c1', c2', c3', c4'⟩ := hc j x hx
        have HX := Lib.hid hx
        obtain ⟨W4, hW4⟩ : ∃ W4, W4 = wi.alloc (.cells #[.int .u8 x.kind, .int .i64 x.key.a, .int .i64 x.key.b, .int .i64 x.key.c, .int .i64 x.till] 82) := ⟨_, rfl⟩
        have hE4 : Ext wi W4 := by rw [hW4]; exact ext_alloc (ext_refl _) _
        obtain ⟨bx, hbx⟩ : ∃ b, b = wi.heap.size := ⟨_, rfl⟩
        have hX4 : W4.heap[bx]? = some (.cells #[.int .u8 x.kind, .int .i64 x.key.a, .int .i64 x.key.b, .int .i64 x.key.c, .int .i64 x.till] 82 (0, 0)) := by rw [hW4, hbx]; exact heap_alloc_new _ _
        have HX4 := Lib.hid hX4
        have HEX4 := Lib.hid hE4
        have HBX := Lib.hid hbx
        clear hc hrd hx hE4 hX4 hbx
        have ux : ∀ (o : Nat) (w' : World), Ext W4 w' → w'.cell? ⟨bx, o, none⟩ = (#[.int .u8 x.kind, .int .i64 x.key.a, .int .i64 x.key.b, .int .i64 x.key.c, .int .i64 x.till] : Array Value)[o]? := fun o w' h => block_cell ((ext_block h (block_lt HX4.out)).trans HX4.out) o
        have uxl : ∀ w', Ext W4 w' → bx < w'.heap.size := fun w' h => ext_lt h (block_lt HX4.out)
        go_wp2
        rw [← hW4]
        clear hW4 c0' c1' c2' c3' c4' lg
        rw [← HBX.out]
        refine wp_region_line ext_wR [] [(0, false, (fun v => v = (ptr Lc.pf)), fun _ _ => True), (1, false, (fun v => v = (.pointer (some ⟨bx, 1, none⟩))), fun _ _ => True), (2, false, (fun v => v = (.pointer (some ⟨bx, 1, none⟩))), fun _ _ => True), (3, false, (fun v => v = (.int .i64 x.key.a)), fun _ _ => True), (4, false, (fun v => v = (.int .i64 (absZ x.key.a))), fun _ _ => True), (5, false, (fun v => v = (.pointer (some ⟨bx, 1, none⟩))), fun _ _ => True), (6, false, (fun v => v = (.pointer (some ⟨bx, 2, none⟩))), fun _ _ => True), (7, false, (fun v => v = (.int .i64 x.key.b)), fun _ _ => True), (8, false, (fun v => v = (.int .i64 (absZ x.key.b))), fun _ _ => True), (9, false, (fun v => v = (.pointer (some ⟨bx, 1, none⟩))), fun _ _ => True), (10, false, (fun v => v = (.pointer (some ⟨bx, 3, none⟩))), fun _ _ => True), (11, false, (fun v => v = (.int .i64 x.key.c)), fun _ _ => True), (12, false, (fun v => v = (.int .i64 (absZ x.key.c))), fun _ _ => True), (13, false, (fun v => v = (.agg #[.int .i64 (absZ x.key.a), .int .i64 (absZ x.key.b), .int .i64 (absZ x.key.c)])), fun _ _ => True), (14, false, (fun v => v = (.pointer (some ⟨bx, 4, none⟩))), fun _ _ => True), (15, false, (fun v => v = (.int .i64 x.till)), fun _ _ => True), (16, false, (fun v => v = (.int .i64 (untZ x.till))), fun _ _ => True)] [17] [0, 1, 2, 3, 4, 5, 6, 7, 8, 9, 10, 11, 12, 13, 14, 15, 16] rfl (by kernel_rfl) (by kernel_rfl) (fun _ _ d _ _ h => by cases d <;> exact h) ?_
        refine wpPre_nil ?_
        refine wpGl_pure1 (fun _ _ _ h h1 w' hw hs => h1 w' hw (h _ hs)) rfl (fun w6 hE6 hS6 => ?_) (fun K hK => ?_)
        · simp only [opAtL, runsAt]
          go_simp
          all_goals (first | exact ⟨ext_refl _, rfl⟩ | exact ext_refl _ | rfl | trivial)
        go_simp
        refine hK _ ?_
        clear hK K
        refine wpGl_pure1 (fun _ _ _ h h1 w' hw hs => h1 w' hw (h _ hs)) rfl (fun w6 hE6 hS6 => ?_) (fun K hK => ?_)
        · simp only [opAtL, runsAt]
          go_simp
          all_goals (first | exact ⟨ext_refl _, rfl⟩ | exact ext_refl _ | rfl | trivial)
        go_simp
        refine hK _ ?_
        clear hK K
        refine wpGl_pure1 (fun _ _ _ h h1 w' hw hs => h1 w' hw (h _ hs)) rfl (fun w6 hE6 hS6 => ?_) (fun K hK => ?_)
        · simp only [opAtL, runsAt]
          go_simp
          all_goals (first | exact ⟨ext_refl _, rfl⟩ | exact ext_refl _ | rfl | trivial)
        go_simp
        refine hK _ ?_
        clear hK K
        refine wpGl_pure1 (fun _ _ _ h h1 w' hw hs => h1 w' hw (h _ hs)) rfl (fun w6 hE6 hS6 => ?_) (fun K hK => ?_)
        · have q0 := ux 1 w6 hE6
          have q1 := uxl w6 hE6
          simp only [opAtL, runsAt]
          go_simp
          all_goals (first | exact ⟨ext_refl _, rfl⟩ | exact ext_refl _ | rfl | trivial)
        go_simp
        refine hK _ ?_
        clear hK K
        refine wpGl_pure1 (fun _ _ _ h h1 w' hw hs => h1 w' hw (h _ hs)) rfl (fun w6 hE6 hS6 => ?_) (fun K hK => ?_)
        · simp only [opAtL, runsAt]
          go_simp
          refine (abs_any x.key.a w6).mono ?_
          rintro e w7 ⟨rfl, rfl⟩
          first | exact ⟨rfl, ext_refl _⟩ | exact ⟨_, rfl, ext_refl _, rfl⟩
        go_simp
        refine hK _ ?_
        clear hK K
        refine wpGl_pure1 (fun _ _ _ h h1 w' hw hs => h1 w' hw (h _ hs)) rfl (fun w6 hE6 hS6 => ?_) (fun K hK => ?_)
        · simp only [opAtL, runsAt]
          go_simp
          all_goals (first | exact ⟨ext_refl _, rfl⟩ | exact ext_refl _ | rfl | trivial)
        go_simp
        refine hK _ ?_
        clear hK K
        refine wpGl_pure1 (fun _ _ _ h h1 w' hw hs => h1 w' hw (h _ hs)) rfl (fun w6 hE6 hS6 => ?_) (fun K hK => ?_)
        · simp only [opAtL, runsAt]
          go_simp
          all_goals (first | exact ⟨ext_refl _, rfl⟩ | exact ext_refl _ | rfl | trivial)
        go_simp
        refine hK _ ?_
        clear hK K
        refine wpGl_pure1 (fun _ _ _ h h1 w' hw hs => h1 w' hw (h _ hs)) rfl (fun w6 hE6 hS6 => ?_) (fun K hK => ?_)
        · have q0 := ux 2 w6 hE6
          have q1 := uxl w6 hE6
          simp only [opAtL, runsAt]
          go_simp
          all_goals (first | exact ⟨ext_refl _, rfl⟩ | exact ext_refl _ | rfl | trivial)
        go_simp
        refine hK _ ?_
        clear hK K
        refine wpGl_pure1 (fun _ _ _ h h1 w' hw hs => h1 w' hw (h _ hs)) rfl (fun w6 hE6 hS6 => ?_) (fun K hK => ?_)
        · simp only [opAtL, runsAt]
          go_simp
          refine (abs_any x.key.b w6).mono ?_
          rintro e w7 ⟨rfl, rfl⟩
          first | exact ⟨rfl, ext_refl _⟩ | exact ⟨_, rfl, ext_refl _, rfl⟩
        go_simp
        refine hK _ ?_
        clear hK K
        refine wpGl_pure1 (fun _ _ _ h h1 w' hw hs => h1 w' hw (h _ hs)) rfl (fun w6 hE6 hS6 => ?_) (fun K hK => ?_)
        · simp only [opAtL, runsAt]
          go_simp
          all_goals (first | exact ⟨ext_refl _, rfl⟩ | exact ext_refl _ | rfl | trivial)
        go_simp
        refine hK _ ?_
        clear hK K
        refine wpGl_pure1 (fun _ _ _ h h1 w' hw hs => h1 w' hw (h _ hs)) rfl (fun w6 hE6 hS6 => ?_) (fun K hK => ?_)
        · simp only [opAtL, runsAt]
          go_simp
          all_goals (first | exact ⟨ext_refl _, rfl⟩ | exact ext_refl _ | rfl | trivial)
        go_simp
        refine hK _ ?_
        clear hK K
        refine wpGl_pure1 (fun _ _ _ h h1 w' hw hs => h1 w' hw (h _ hs)) rfl (fun w6 hE6 hS6 => ?_) (fun K hK => ?_)
        · have q0 := ux 3 w6 hE6
          have q1 := uxl w6 hE6
          simp only [opAtL, runsAt]
          go_simp
          all_goals (first | exact ⟨ext_refl _, rfl⟩ | exact ext_refl _ | rfl | trivial)
        go_simp
        refine hK _ ?_
        clear hK K
        refine wpGl_pure1 (fun _ _ _ h h1 w' hw hs => h1 w' hw (h _ hs)) rfl (fun w6 hE6 hS6 => ?_) (fun K hK => ?_)
        · simp only [opAtL, runsAt]
          go_simp
          refine (abs_any x.key.c w6).mono ?_
          rintro e w7 ⟨rfl, rfl⟩
          first | exact ⟨rfl, ext_refl _⟩ | exact ⟨_, rfl, ext_refl _, rfl⟩
        go_simp
        refine hK _ ?_
        clear hK K
        refine wpGl_pure1 (fun _ _ _ h h1 w' hw hs => h1 w' hw (h _ hs)) rfl (fun w6 hE6 hS6 => ?_) (fun K hK => ?_)
        · simp only [opAtL, runsAt]
          go_simp
          all_goals (first | exact ⟨ext_refl _, rfl⟩ | exact ext_refl _ | rfl | trivial)
        go_simp
        refine hK _ ?_
        clear hK K
        refine wpGl_pure1 (fun _ _ _ h h1 w' hw hs => h1 w' hw (h _ hs)) rfl (fun w6 hE6 hS6 => ?_) (fun K hK => ?_)
        · simp only [opAtL, runsAt]
          go_simp
          all_goals (first | exact ⟨ext_refl _, rfl⟩ | exact ext_refl _ | rfl | trivial)
        go_simp
        refine hK _ ?_
        clear hK K
        refine wpGl_pure1 (fun _ _ _ h h1 w' hw hs => h1 w' hw (h _ hs)) rfl (fun w6 hE6 hS6 => ?_) (fun K hK => ?_)
        · have q0 := ux 4 w6 hE6
          have q1 := uxl w6 hE6
          simp only [opAtL, runsAt]
          go_simp
          all_goals (first | exact ⟨ext_refl _, rfl⟩ | exact ext_refl _ | rfl | trivial)
        go_simp
        refine hK _ ?_
        clear hK K
        refine wpGl_pure1 (fun _ _ _ h h1 w' hw hs => h1 w' hw (h _ hs)) rfl (fun w6 hE6 hS6 => ?_) (fun K hK => ?_)
        · simp only [opAtL, runsAt]
          go_simp
          all_goals (first | exact ⟨ext_refl _, rfl⟩ | exact ext_refl _ | rfl | trivial)
        go_simp
        refine hK _ ?_
        clear hK K
        refine wpGl_nil (fun w5' hE5 _ => ?_)
        have HE5' := Lib.hid (ext_trans HEX4.out hE5)
        clear ux uxl hE5
        obtain ⟨EL, hEL⟩ : ∃ E, E = edsL (LA.take j) := ⟨_, rfl⟩
        have hnd : KeysNd EL := by rw [hEL]; exact edsL_nd _
        have hll : EL.length ≤ 40 := by have := HNA.out; rw [hEL]; exact Nat.le_trans (edsL_len _) (by rw [List.length_take]; omega)
        have HEL := Lib.hid (show edsL (LA.take (j + 1)) = addL EL (absK x.key) (untZ x.till) by rw [hEL]; exact edsL_take HX.out)
        rw [← hEL] at HF
        have HND := Lib.hid hnd
        clear hEL hnd
        refine wpSeq_of_list [17] [_] _ _ rfl ?_
        go_simp
        go_wp2_with fail
        refine (add_foX (k := absK x.key) (u := untZ x.till) (foX_ext HF.out HE5'.out) (ext_size HE5'.out) HND.out (by omega) (absK_ok _).1 (untZ_ok _) (absK_right _ _)).mono ?_
        rintro e w7 ⟨rfl, hF7, hU7⟩
        have HF7 := Lib.hid hF7
        have HE7 := Lib.hid (show Ext w w7 from ext_of_upd (upd_trans (upd_of_ext (ext_trans HE.out HE5'.out)) hU7 (fun i hi e => by have h5 : w.heap.size ≤ i ∧ i < wi.heap.size := e; omega)))
        clear hF7 hU7
        go_wp2
        go_roundw
        case rel => exact ⟨j + 1, by omega, by go_num, by rw [HEL.out]; exact HF7.out, HE7.out⟩
        case measure => simp [intOf]; omega
      · have h5 : j = na := by omega
        subst h5
        have hall : LA.take j = LA := by rw [HN.out, List.take_length]
        rw [hall] at HF
        clear hall
        have HND := Lib.hid (edsL_nd LA)
        have HSM := Lib.hid (edsL_small LA)
        have hel : (edsL LA).length ≤ 40 := by have := HNA.out; exact Nat.le_trans (edsL_len _) (by omega)
        obtain ⟨EL, hEL⟩ : ∃ E, E = edsL LA := ⟨_, rfl⟩
        rw [← hEL] at HF HND HSM hel
        clear hEL
        go_wp2_with fail
        refine (pairs_foX HF.out HND.out (by omega)).mono ?_
        rintro e w8 ⟨qb, NQ, p, rfl, hQ, hP, hqw, hE8⟩
        have HQW := Lib.hid hqw
        have HQ := Lib.hid hQ
        have HP := Lib.hid hP
        have HF8 := Lib.hid (foX_ext HF.out hE8)
        have HE8 := Lib.hid (ext_trans HE.out hE8)
        have HQ8 := Lib.hid ((ext_block HE8.out (block_lt HQB.out)).trans HQB.out)
        clear hQ hP hE8 hqw
        have ux : ∀ (o : Nat) (w' : World), Ext w8 w' → w'.cell? ⟨bq, o, none⟩ = (#[.int .i64 qa, .int .i64 qb'] : Array Value)[o]? := fun o w' h => block_cell ((ext_block h (block_lt HQ8.out)).trans HQ8.out) o
        have uxl : ∀ w', Ext w8 w' → bq < w'.heap.size := fun w' h => ext_lt h (block_lt HQ8.out)
        go_wp2
        refine wp_region_line ext_wR [] [(0, false, (fun v => v = (.pointer (some ⟨bq, 0, none⟩))), fun _ _ => True), (1, false, (fun v => v = (.int .i64 qa)), fun _ _ => True), (2, false, (fun v => v = (.int .i64 (absZ qa))), fun _ _ => True), (3, false, (fun v => v = (.pointer (some ⟨bq, 1, none⟩))), fun _ _ => True), (4, false, (fun v => v = (.int .i64 qb')), fun _ _ => True), (5, false, (fun v => v = (.int .i64 (absZ qb'))), fun _ _ => True)] [6, 7] [0, 1, 2, 3, 4, 5] rfl (by kernel_rfl) (by kernel_rfl) (fun _ _ d _ _ h => by cases d <;> exact h) ?_
        refine wpPre_nil ?_
        refine wpGl_pure1 (fun _ _ _ h h1 w' hw hs => h1 w' hw (h _ hs)) rfl (fun w6 hE6 hS6 => ?_) (fun K hK => ?_)
        · simp only [opAtL, runsAt]
          go_simp
          all_goals (first | exact ⟨ext_refl _, rfl⟩ | exact ext_refl _ | rfl | trivial)
        go_simp
        refine hK _ ?_
        clear hK K
        refine wpGl_pure1 (fun _ _ _ h h1 w' hw hs => h1 w' hw (h _ hs)) rfl (fun w6 hE6 hS6 => ?_) (fun K hK => ?_)
        · have q0 := ux 0 w6 hE6
          have q1 := uxl w6 hE6
          simp only [opAtL, runsAt]
          go_simp
          all_goals (first | exact ⟨ext_refl _, rfl⟩ | exact ext_refl _ | rfl | trivial)
        go_simp
        refine hK _ ?_
        clear hK K
        refine wpGl_pure1 (fun _ _ _ h h1 w' hw hs => h1 w' hw (h _ hs)) rfl (fun w6 hE6 hS6 => ?_) (fun K hK => ?_)
        · simp only [opAtL, runsAt]
          go_simp
          refine (abs_any qa w6).mono ?_
          rintro e w7 ⟨rfl, rfl⟩
          first | exact ⟨rfl, ext_refl _⟩ | exact ⟨_, rfl, ext_refl _, rfl⟩
        go_simp
        refine hK _ ?_
        clear hK K
        refine wpGl_pure1 (fun _ _ _ h h1 w' hw hs => h1 w' hw (h _ hs)) rfl (fun w6 hE6 hS6 => ?_) (fun K hK => ?_)
        · simp only [opAtL, runsAt]
          go_simp
          all_goals (first | exact ⟨ext_refl _, rfl⟩ | exact ext_refl _ | rfl | trivial)
        go_simp
        refine hK _ ?_
        clear hK K
        refine wpGl_pure1 (fun _ _ _ h h1 w' hw hs => h1 w' hw (h _ hs)) rfl (fun w6 hE6 hS6 => ?_) (fun K hK => ?_)
        · have q0 := ux 1 w6 hE6
          have q1 := uxl w6 hE6
          simp only [opAtL, runsAt]
          go_simp
          all_goals (first | exact ⟨ext_refl _, rfl⟩ | exact ext_refl _ | rfl | trivial)
        go_simp
        refine hK _ ?_
        clear hK K
        refine wpGl_pure1 (fun _ _ _ h h1 w' hw hs => h1 w' hw (h _ hs)) rfl (fun w6 hE6 hS6 => ?_) (fun K hK => ?_)
        · simp only [opAtL, runsAt]
          go_simp
          refine (abs_any qb' w6).mono ?_
          rintro e w7 ⟨rfl, rfl⟩
          first | exact ⟨rfl, ext_refl _⟩ | exact ⟨_, rfl, ext_refl _, rfl⟩
        go_simp
        refine hK _ ?_
        clear hK K
        refine wpGl_nil (fun w9 hE9 _ => ?_)
        have HE9 := Lib.hid (ext_trans HE8.out hE9)
        have HF9 := Lib.hid (foX_ext HF8.out hE9)
        have HQ9 := Lib.hid (mapG_ext HQ.out hE9)
        obtain ⟨xx, hxx⟩ : ∃ z, z = absZ qa := ⟨_, rfl⟩
        obtain ⟨yy, hyy⟩ : ∃ z, z = absZ qb' := ⟨_, rfl⟩
        have hxr := absZ_le qa
        have hyr := absZ_le qb'
        rw [← hxx] at hxr
        rw [← hyy] at hyr
        have hxi : okI xx := okI_iff.2 (by omega)
        have hyi : okI yy := okI_iff.2 (by omega)
        clear ux uxl hE9
        rw [← hxx, ← hyy]
        have HXX := Lib.hid (And.intro hxx hyy)
        clear hxx hyy
        refine wpSeq_of_list [6, 7] [_, _] _ _ rfl ?_
        go_simp
        go_wp2_with fail
        refine (from_foX xx HF9.out HND.out HSM.out (by omega) HP.out).mono ?_
        rintro e wA ⟨vR, R, rfl, hrR, hup, hmem, hEA⟩
        have HEA := Lib.hid (ext_trans HE9.out hEA)
        have HFA := Lib.hid (foX_ext HF9.out hEA)
        have HQA := Lib.hid (mapG_ext HQ9.out hEA)
        have HMEM := Lib.hid hmem
        have HUP := Lib.hid hup
        obtain ⟨AR', cR, hvR⟩ := rowE_form hrR.1
        obtain ⟨nR, hnR⟩ : ∃ n, n = R.length := ⟨_, rfl⟩
        rw [← hnR] at hvR
        subst hvR
        have HRR := Lib.hid hrR.1
        have HNR := Lib.hid hnR
        have hnR5 : nR ≤ 1000 := by
          have h1 := List.pairwise_iff_getElem.1 hup
          have h2 : ∀ m ∈ R, m < 5 := fun m hm => by
            obtain ⟨v, hv⟩ := Option.isSome_iff_exists.1 ((hmem m).1 hm)
            obtain ⟨k', u', h3, h4⟩ := (lead_nodes ((HP.out.is xx m v).1 hv).1).2
            have h5 := HSM.out _ ((grOf_some HND.out).1 h3)
            unfold smallE at h5
            simp only at h5
            omega
          have h6 : R.Nodup := hup.imp (fun h => Nat.ne_of_lt h)
          have h7 := nodupN_le h6 (M := List.range 5) (fun m hm => List.mem_range.2 (h2 m hm))
          rw [List.length_range] at h7
          omega
        clear hEA hmem hup hrR hnR
        go_wp2
        go_loopw [84] (fun y wn => ∃ i : Nat, i ≤ nR ∧ y = .int .i64 (i : Int) ∧ wA = wn) (fun y _ => nR - (intOf y).toNat)
        case atStart => exact ⟨0, by omega, rfl, rfl⟩
        case round =>
          obtain ⟨i, hi, rfl, rfl⟩ := hrel
          by_cases hlt : i < nR
          · have hii : (i : Int) < (nR : Int) := by omega
            obtain ⟨m, hm⟩ : ∃ m, R[i]? = some m := ⟨_, List.getElem?_eq_getElem (by rw [← HNR.out]; exact hlt)⟩
            obtain ⟨gR, rfl, lgR⟩ := rowE_some HRR.out (fun e => by rw [e] at hm; simp at hm)
            have x0 := rowN_cell HRR.out hm
            have hps := (HMEM.out m).1 (List.mem_of_getElem? hm)
            obtain ⟨pv, hpv⟩ := Option.isSome_iff_exists.1 hps
            have hmi : okI (m : Int) := by
              have h1 := (mapG_out HQA.out hpv).1
              exact h1.2
            have hlk : (Instr.lookup 65 (.map (some qb)) (.agg #[.int .i64 xx, .int .i64 (m : Int)]) true).run Try.prog wA = .ok (.tuple #[.int .i64 pv, .bool true]) wA := by
              have h3 := look2_G Try.underlying65 HQA.out (x := ⟨xx, (m : Int)⟩) ⟨hxi, hmi⟩
              rw [hpv] at h3
              exact h3
            have HM := Lib.hid hm
            clear hm hps hpv
            cases i with
            | zero =>
              go_wp2
              go_roundw
              case rel => exact ⟨1, by omega, by go_num, by first | rfl | trivial⟩
              case measure => simp [intOf]; omega
            | succ i =>
              obtain ⟨m', hm'⟩ : ∃ m', R[i]? = some m' := ⟨_, List.getElem?_eq_getElem (by rw [← HNR.out]; omega)⟩
              have x1 := rowN_cell HRR.out hm'
              have hmm : m' < m := by
                have h1 := List.pairwise_iff_getElem.1 HUP.out i (i + 1) (List.getElem?_eq_some_iff.1 hm').1 (List.getElem?_eq_some_iff.1 HM.out).1 (by omega)
                rw [(List.getElem?_eq_some_iff.1 hm').2, (List.getElem?_eq_some_iff.1 HM.out).2] at h1
                exact h1
              have hge : ¬ (m : Int) ≤ (m' : Int) := by omega
              have hsub : IntKind.i64.wrap (((i + 1 : Nat) : Int) - 1) = (i : Int) := (IntWalk.i64_in _ (by omega)).trans (by omega)
              have hii' : (i : Int) < (nR : Int) := by omega
              have hpos : (0 : Int) < ((i + 1 : Nat) : Int) := by omega
              clear hm'
              go_wp2
              go_roundw
              case rel => exact ⟨i + 1 + 1, by omega, by go_num, by first | rfl | trivial⟩
              case measure => simp [intOf]; omega
          · have hnl : ¬ (i : Int) < (nR : Int) := by omega
            clear hlt hi
            go_wp2_with (first
              | (at_range; refine wpList_range_G _ rfl _ _ rfl Try.underlying65 rfl HQA.out ?_; intro wr r hr0; have HLR := Lib.hid hr0; clear hr0; intro hrng hEr hs2)
              | go_in)
            have HRN := Lib.hid hrng
            have HER := Lib.hid hEr
            have HN3 := Lib.hid (few_prs HND.out HSM.out HP.out HQ.out)
            clear hrng hEr hs2
            go_simp
            go_loopw [21] (fun y wn => ∃ (done : List Two), RngG kQ eI qb r NQ p done wn ∧ done.Nodup ∧ (∀ q ∈ done, (p q).isSome = true) ∧ done.length ≤ NQ ∧ y = .int .i64 ((cntA xx done : Nat) : Int) ∧ Ext wA wn) (fun _ wn => wn.rangeLeft qb r)
            case atStart => exact ⟨[], HRN.out, List.nodup_nil, (fun q hq => by cases hq), Nat.zero_le _, rfl, HER.out⟩
            case round =>
              rename World => wn
              obtain ⟨done, hR, hnd, hdn, hdl, rfl, hE⟩ := hrel
              have HR := Lib.hid hR
              have HE2 := Lib.hid hE
              have HDN := Lib.hid (And.intro hnd (And.intro hdn hdl))
              have hcl : cntA xx done ≤ 1000 := by
                have h1 := cntA_le xx done
                have := HN3.out
                omega
              obtain ⟨cn, hcn⟩ : ∃ c, c = cntA xx done := ⟨_, rfl⟩
              rw [← hcn] at hcl ⊢
              have HCN := Lib.hid hcn
              clear hR hE hnd hdn hdl hcn
              go_wp2_with (first
                | (at_next; refine wpList_next_G wn rfl _ rfl rfl HR.out ?_ ?_)
                | go_in)
              · intro hall
                have hcr : cn = nR := by
                  rw [HCN.out, HNR.out]
                  exact cntA_all HDN.out.1 (fun q hq => HDN.out.2.1 q hq) hall (fun q hq => by
                    obtain ⟨v, hv⟩ := Option.isSome_iff_exists.1 hq
                    obtain ⟨k', u', h3, h4⟩ := (lead_nodes ((HP.out.is q.a q.b v).1 hv).1).2
                    have h5 := HSM.out _ ((grOf_some HND.out).1 h3)
                    unfold smallE at h5
                    simp only at h5
                    omega) (HUP.out.imp (fun h => Nat.ne_of_lt h)) HMEM.out
                subst hcr
                clear hall
                have hlx := look2_G Try.underlying65 (rngG_map HR.out) (x := ⟨xx, yy⟩) ⟨hxi, hyi⟩
                rw [show kQ.val ⟨xx, yy⟩ = .agg #[.int .i64 xx, .int .i64 yy] from rfl, show eI.val ((p ⟨xx, yy⟩).getD eI.zero) = .int .i64 ((p ⟨xx, yy⟩).getD 0) from rfl] at hlx
                obtain ⟨a1, ha1⟩ : ∃ a1, a1 = (p ⟨xx, yy⟩).getD 0 := ⟨_, rfl⟩
                obtain ⟨th, hth⟩ : ∃ b, b = (p ⟨xx, yy⟩).isSome := ⟨_, rfl⟩
                rw [← ha1, ← hth] at hlx
                have HTH := Lib.hid hth
                obtain ⟨w7, hup, hQ7, hg7⟩ := store_G (t := 65) Try.underlying65 (rngG_map HR.out) (by have := HN3.out; unfold maxLen; omega) (x := ⟨xx, yy⟩) ⟨hxi, hyi⟩ (c := -5) (okI_iff.2 (by decide))
                have hup' : (Instr.mapUpdate 65 (.map (some qb)) (.agg #[.int .i64 xx, .int .i64 yy]) (.int .i64 (-5))).run Try.prog wn = .ok () w7 := hup
                have hU7 := upd_mono (upd_grown hg7) (fp' := fun b => b = qb) (fun j _ e => (Option.some.inj e).symm)
                have HF7 := Lib.hid (foX_upd (foX_ext HFA.out HE2.out) hU7 HQW.out)
                have HE7 := Lib.hid (show Ext w w7 from ext_of_upd (upd_trans (upd_of_ext (ext_trans HEA.out HE2.out)) hU7 (fun i hi e => absurd hi (by have e' : i = qb := e; have := HQW.out; have := ext_size HE.out; omega))))
                clear hup hQ7 hg7 hU7 ha1 hth
                go_wp2_with fail
                refine (has_foX xx yy HF7.out HND.out (by omega) hxi hyi HP.out).mono ?_
                rintro e wB ⟨rfl, hEB⟩
                rw [← HTH.out]
                have HFB := Lib.hid (foX_ext HF7.out hEB)
                have HEB := Lib.hid (ext_trans HE7.out hEB)
                clear hEB hup' hlx
                go_wp2_with fail
                refine (has_foX (-1) xx HFB.out HND.out (by omega) (okI_iff.2 (by decide)) hxi HP.out).mono ?_
                rintro e wC ⟨rfl, hEC⟩
                rw [show (p ⟨-1, xx⟩).isSome = false from by
                  cases hpp : p ⟨-1, xx⟩ with
                  | none => rfl
                  | some v =>
                    obtain ⟨k', u', h3, h4⟩ := (lead_nodes ((HP.out.is (-1) xx v).1 hpp).1).1
                    have h5 := HSM.out _ ((grOf_some HND.out).1 h3)
                    unfold smallE at h5
                    simp only at h5
                    omega]
                have HEC := Lib.hid (ext_trans HEW.out (ext_trans HEB.out hEC))
                clear hEC
                go_wp2
                refine bodyPost_ret (results_tmp rfl _ _ _) rfl ?_
                exact ⟨by simp, HEC.out⟩
              · intro q' lasts w3' hfx hnx hR3 hlt3 hg3 hs3 hent
                rw [show kQ.val q' = .agg #[.int .i64 q'.a, .int .i64 q'.b] from rfl, show eI.val lasts = .int .i64 lasts from rfl] at hent ⊢
                obtain ⟨xa, xb⟩ := q'
                have hE3 : Ext wA w3' := ext_of_upd (upd_trans (upd_of_ext HE2.out) (upd_grown hg3) (fun j hj e => absurd hj (by have h5 : r = j := Option.some.inj e; have := HLR.out; omega)))
                have HR3 := Lib.hid (rngG_ext hR3 (ext_alloc (ext_refl _) (.cells #[.int .i64 xa, .int .i64 xb] 68)))
                have HL3 := Lib.hid (show (w3'.alloc (.cells #[.int .i64 xa, .int .i64 xb] 68)).rangeLeft qb r < wn.rangeLeft qb r by rw [left_ext hR3 (ext_alloc (ext_refl _) _)]; exact hlt3)
                have HE3 := Lib.hid (ext_trans hE3 (ext_alloc (ext_refl _) (.cells #[.int .i64 xa, .int .i64 xb] 68)))
                have HND2 := Lib.hid (show (done ++ [(⟨xa, xb⟩ : Two)]).Nodup ∧ (∀ q ∈ done ++ [(⟨xa, xb⟩ : Two)], (p q).isSome = true) ∧ (done ++ [(⟨xa, xb⟩ : Two)]).length ≤ NQ from by
                  have hn2 : (done ++ [(⟨xa, xb⟩ : Two)]).Nodup := List.nodup_append.2 ⟨HDN.out.1, List.nodup_cons.2 ⟨by simp, List.nodup_nil⟩, fun a ha b hb => by rw [List.mem_singleton.1 hb]; exact fun e1 => hnx (e1 ▸ ha)⟩
                  have hm2 : ∀ q ∈ done ++ [(⟨xa, xb⟩ : Two)], (p q).isSome = true := fun q hq => by
                    rcases List.mem_append.1 hq with h | h
                    · exact HDN.out.2.1 q h
                    · rw [List.mem_singleton.1 h, hfx]
                      rfl
                  refine ⟨hn2, hm2, ?_⟩
                  obtain ⟨X, hX1, hX2, hX3⟩ := mapG_keys HQ.out
                  rw [← hX3]
                  exact nodup2J_le hn2 (fun z hz => (hX2 z).2 (hm2 z hz)))
                have HCA := Lib.hid (cntA_snoc xx done ⟨xa, xb⟩)
                clear hfx hnx hR3 hlt3 hg3 hs3 hE3
                by_cases hxq : xa = xx
                · have HCB := Lib.hid (show cntA xx (done ++ [⟨xa, xb⟩]) = cn + 1 by rw [HCA.out, if_pos hxq, HCN.out])
                  have hwr : IntKind.i64.wrap ((cn : Int) + 1) = (cn : Int) + 1 := IntWalk.i64_in _ (by omega)
                  have hxe := hxq.symm
                  clear hxq
                  subst hxe
                  go_wp2
                  go_roundw
                  case rel => exact ⟨_, HR3.out, HND2.out.1, HND2.out.2.1, HND2.out.2.2, by rw [HCB.out]; go_num, HE3.out⟩
                  case measure => exact HL3.out
                · have HCB := Lib.hid (show cntA xx (done ++ [⟨xa, xb⟩]) = cn by rw [HCA.out, if_neg hxq, HCN.out]; rfl)
                  go_wp2
                  go_roundw
                  case rel => exact ⟨_, HR3.out, HND2.out.1, HND2.out.2.1, HND2.out.2.2, by rw [HCB.out], HE3.out⟩
                  case measure => exact HL3.out
  · refine (new_no t _ 100 w4 HP4.out (by omega) hz).mono ?_
    rintro e w5 ⟨cc, hcc, rfl, hE5⟩
    have hcd : (cc != 0) = true := by simpa using hcc
    have HE5 := Lib.hid (ext_trans HE4.out hE5)
    clear hE5
    go_wp2
    refine bodyPost_ret (results_tmp rfl _ _ _) rfl ?_
    exact ⟨rfl, ext_trans HEW.out HE5.out⟩
end Go.Proofs.Ytiabmdboacpmcaa
/- ReachAsks: whom a node is paired with, and whether two are, is as the pairs say. No condition. -/
namespace Go.Proofs.Ytiabmdboacpmcaa
open Go.ChangeShapes Go.WideShapes Go.ChangeAt Go.WideMaps Go.WideElems Go.RowKit

set_option maxRecDepth 100000 in
theorem asks_lifted (os : Os) (started : os.Started) (H : Type) (enc : TypeId × Value → H) :
    ReturnsInHanded {} Try.checked os 12 .any (Rows.reachAsksSpec.pre6 enc Try.prog Try.f12 Rows.reachAsksRow.domain false) (Rows.reachAsksSpec.post enc Try.prog Try.f12 false true false false) := by
  refine returnsInHanded_of_change_sized (C := Try.checked) own started (by kernel_rfl) Try.func12
    (ChangeSpec.witness6 (enc := enc) (C := Try.checked) false ⟨#[], #[.slice none 0 0, .slice none 0 0, .agg #[.int .i64 0, .int .i64 0]], []⟩ 8 (by kernel_rfl) (by kernel_rfl) (by kernel_rfl) (by kernel_rfl)) ?_
  intro W base args ds gs before hval0 hW _ hsz0 _
  clear hsz0
  have hval : ∀ (j : Nat) t v, Try.f12.params[j]? = some t → args[j]? = some v → Value.okWide Try.prog W .any base t v := hval0
  have hW' := hW
  obtain ⟨p, q, hA0, hV, rfl, hfz, hnd⟩ := hW
  have hA : DataW.TrodAll enc Try.prog W 0 (fun _ => true) true Try.f12.params.toList args.toList ds p := hA0
  rw [Try.params12] at hA hval
  obtain ⟨v0, vs0, d0, ds0, p0, q0, hargs, rfl, rfl, h0, r0⟩ := trodAll_cons hA
  obtain ⟨v1, vs1, d1, ds1, p1, q1, rfl, rfl, rfl, h1, r1⟩ := trodAll_cons r0
  obtain ⟨v2, vs2, d2, ds2, p2, q2, rfl, rfl, rfl, h2, r2⟩ := trodAll_cons r1
  obtain ⟨rfl, rfl, rfl⟩ := trodAll_nil r2
  obtain rfl : args = #[v0, v1, v2] := by cases args; simp_all
  obtain ⟨rfl, rfl⟩ := trodVars_none hV
  have lt0 : ∀ x ∈ p0, x.block < W.heap.size := by obtain ⟨m, hm⟩ := h0; exact DataW.trod_lt m _ _ _ hm
  obtain ⟨L0, ha0, hl0⟩ := open_nodes (hval 0 22 v0 rfl rfl) h0
  have lt1 : ∀ x ∈ p1, x.block < W.heap.size := by obtain ⟨m, hm⟩ := h1; exact DataW.trod_lt m _ _ _ hm
  obtain ⟨L1, ha1⟩ := open_acts (hval 1 60 v1 rfl rfl) h1
  have lt2 : ∀ x ∈ p2, x.block < W.heap.size := by obtain ⟨m, hm⟩ := h2; exact DataW.trod_lt m _ _ _ hm
  obtain ⟨a2, b2, rfl, w2⟩ := open_two (hval 2 78 v2 rfl rfl) h2
  clear hA0 hval0
  refine (asks_law v0 v1 L0 L1 a2 b2 W ha0 ha1 w2.1 w2.2).mono fun e W' ⟨he, bel⟩ => ?_
  subst he
  have bel : Below W.heap.size W W' := bel
  exact ⟨_, rfl, _, _, _, [], _, [], hW', trodAll_mk1 (shut_bool Try.underlying4 _), (trodAll_cons_mk (Below.trod laidOut (by kernel_rfl) (of_decide_eq_true (by kernel_rfl)) h0 bel lt0) (trodAll_cons_mk (Below.trod laidOut (by kernel_rfl) (of_decide_eq_true (by kernel_rfl)) h1 bel lt1) (trodAll_cons_mk (Below.trod laidOut (by kernel_rfl) (of_decide_eq_true (by kernel_rfl)) h2 bel lt2) trodAll_mk0))), rfl, bel.frame _, fun h => by cases h⟩

theorem asks_holds : Rows.ReachAsksSaid :=
  OpenClaim.holds_of_wide 12 Try.f12 rfl rfl rfl rfl rfl rfl rfl ⟨rfl, rfl, rfl, rfl, rfl⟩ rfl rfl rfl rfl rfl (by kernel_rfl) Try.func12 (by kernel_rfl)
    (of_decide_eq_true (by kernel_rfl)) (by unfold Func.isWrapper; first | (rw [if_pos (by decide +kernel)]; kernel_rfl) | (rw [if_neg (by decide +kernel)]; exact ⟨rfl, rfl⟩))
    (fun os started H enc _ => asks_lifted os started H enc)
#print axioms asks_holds
end Go.Proofs.Ytiabmdboacpmcaa
