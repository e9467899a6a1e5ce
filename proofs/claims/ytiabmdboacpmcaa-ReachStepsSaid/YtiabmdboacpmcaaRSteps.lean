/- ReachSteps: by one step just the ends of its predicate's edges are paired, for as long as these last. No condition. -/
import Derived.Test.YtiabmdboacpmcaaX32
import Derived.Test.YtiabmdboacpmcaaX34
/- ReachMore. -/
namespace Go.Proofs.Ytiabmdboacpmcaa
open Go Go.RowKit Go.Sort Go.WideMaps Go.Maps
set_option maxHeartbeats 4000000

theorem foR_low {t : Tr} {E : List Ed} {H H' N : Nat} {w0 : World} {L : Loc} {ve : Value} {w : World} (h : FoR t E H N w0 L ve w) (hh : H' ≤ H) : FoR t E H' N w0 L ve w := by
  obtain ⟨F, h1, h2, h3, h4⟩ := h
  exact ⟨F, h1, fun b hb => ⟨Nat.le_trans hh (h2 b hb).1, (h2 b hb).2⟩, rowF_low h3 hh, h4⟩
set_option maxRecDepth 100000 in
theorem more_law (v va vb : Value) (L : List Nd) (LA LB : List AR) (w : World) (hv : RdNd w v L) (ha : RdAR w va LA) (hb : RdAR w vb LB) : Calls Try.prog 9 #[v, va, vb] w fun e w' => e = .returned (.bool true) ∧ Ext w w' := by
  have HV := Lib.hid hv
  have HA := Lib.hid ha
  have HB := Lib.hid hb
  obtain ⟨A1, c1, rfl, hok1, -⟩ := ha
  obtain ⟨A2, c2, rfl, hok2, -⟩ := hb
  have HOK := Lib.hid (And.intro hok1 hok2)
  obtain ⟨na, hna⟩ : ∃ n, n = LA.length := ⟨_, rfl⟩
  obtain ⟨nb, hnb⟩ : ∃ n, n = LB.length := ⟨_, rfl⟩
  rw [← hna] at HA ⊢
  rw [← hnb] at HB ⊢
  have HN := Lib.hid (And.intro hna hnb)
  clear hv hna hnb hok1 hok2
  go_enter Try.func9, Try.ntmps9
  go_wp2_with fail
  refine (awake11_any _).mono ?_
  rintro e w1 ⟨rfl, hE1⟩
  have HE1 := Lib.hid hE1
  clear hE1
  by_cases hbna : (10 : Int) < (na : Int)
  · go_wp2_with fail
    refine (awake11_any _).mono ?_
    rintro e w2 ⟨rfl, hE2⟩
    have HE2 := Lib.hid (ext_trans HE1.out hE2)
    clear hE2
    go_wp2
    refine bodyPost_ret (results_tmp rfl _ _ _) rfl ?_
    exact ⟨rfl, HE2.out⟩
  by_cases hbnb : (10 : Int) < (nb : Int)
  · go_wp2_with fail
    refine (awake11_any _).mono ?_
    rintro e w2 ⟨rfl, hE2⟩
    have HE2 := Lib.hid (ext_trans HE1.out hE2)
    clear hE2
    go_wp2
    refine bodyPost_ret (results_tmp rfl _ _ _) rfl ?_
    exact ⟨rfl, HE2.out⟩
  go_wp2_with fail
  refine (fix_any v L _ (rdNd_ext HV.out HE1.out)).mono ?_
  rintro e w2 ⟨L', v', rfl, hr, hF, hl, hE2⟩
  have HR := Lib.hid hr
  have HF := Lib.hid hF
  have HE2 := Lib.hid (ext_trans HE1.out hE2)
  have hl8 : L'.length ≤ 8 := by omega
  clear hr hF hE2 hl
  go_wp2_with fail
  refine (tree_fix 8 (by decide) (by decide) v' L' _ HR.out HF.out hl8).mono ?_
  rintro e w3 ⟨rb, n, t, k, z, A, q, c, rfl, hn, hfit, hlst, hpv, hE3⟩
  obtain ⟨hfb, hch, -⟩ := fit_chk hfit (by decide)
  have hsz : sizeT t ≤ 300 := by have := hfit.2.1; omega
  have HLS := Lib.hid hlst
  have HPV := Lib.hid hpv
  have HE3 := Lib.hid (ext_trans HE2.out hE3)
  clear hfit hlst hpv hE3 hfb hl8
  go_wp2_with fail
  have hE4 := ext_alloc (ext_refl w3) (.cells #[.int .i64 k, .int .i64 z, .slice A q c] 30)
  have hB4 := heap_alloc_new w3 (.cells #[.int .i64 k, .int .i64 z, .slice A q c] 30)
  obtain ⟨w4, hw4⟩ : ∃ w4, w4 = w3.alloc (.cells #[.int .i64 k, .int .i64 z, .slice A q c] 30) := ⟨_, rfl⟩
  obtain ⟨p6, hp6⟩ : ∃ p6, p6 = w3.heap.size := ⟨_, rfl⟩
  rw [← hw4] at hE4 hB4 ⊢
  rw [← hp6] at hB4 ⊢
  have HB4 := Lib.hid hB4
  have HE4 := Lib.hid (ext_trans HE3.out hE4)
  have HL4 := Lib.hid (lst_ext HLS.out hE4)
  have HP4 := Lib.hid (PV_ext HPV.out hE4)
  clear hw4 hp6 hE4 hB4 HLS HPV HE3
  refine (rcheck_any t rb n 0 _ (by omega) hn HL4.out).mono ?_
  rintro e w5 ⟨rfl, hE5⟩
  have h45 := (ext_block hE5 (block_lt HB4.out)).trans HB4.out
  have HP5 := Lib.hid (PV_ext HP4.out hE5)
  have HB5 := Lib.hid h45
  have HE5 := Lib.hid (ext_trans HE4.out hE5)
  clear hE5 h45 HP4 HB4 HE4
  by_cases hz : chk t = 0
  · rw [hz]
    have HZ := Lib.hid hz
    have hna : LA.length ≤ 10 := by rw [← HN.out.1]; omega
    have hnb : LB.length ≤ 10 := by rw [← HN.out.2]; omega
    have b0 := block_cell HB5.out 0
    have b1 := block_cell HB5.out 1
    have b2 := block_cell HB5.out 2
    have bl := block_lt HB5.out
    clear hz hch
    go_wp2_with fail
    have ha5 := rdAR_ext HA.out HE5.out
    refine (forest_any t _ _ LA w5 HP5.out HZ.out ha5 (by omega)).mono ?_
    rintro e w6 ⟨w0, Lc, ve, rfl, hF6, hE6⟩
    have HF6 := Lib.hid hF6
    have HB6 := Lib.hid ((ext_block hE6 (block_lt HB5.out)).trans HB5.out)
    have HP6 := Lib.hid (PV_ext HP5.out hE6)
    have HE6 := Lib.hid (ext_trans HE5.out hE6)
    have HAB := Lib.hid (And.intro (rdAR_ext HA.out HE6.out) (rdAR_ext HB.out HE6.out))
    clear ha5 hF6 hE6 b0 b1 b2 bl
    go_wp2_with fail
    have hCE : ∀ a b, Ext w6 a → Ext a b → Ext w6 b := fun a b h h' => ext_trans h h'
    have ux0 : ∀ p : CW (Ext w6), p.val.cell? ⟨p6, 0, none⟩ = some (.int .i64 k) := fun p => block_cell ((ext_block p.ok (block_lt HB6.out)).trans HB6.out) 0
    have ux1 : ∀ p : CW (Ext w6), p.val.cell? ⟨p6, 1, none⟩ = some (.int .i64 z) := fun p => block_cell ((ext_block p.ok (block_lt HB6.out)).trans HB6.out) 1
    have ux2 : ∀ p : CW (Ext w6), p.val.cell? ⟨p6, 2, none⟩ = some (.slice A q c) := fun p => block_cell ((ext_block p.ok (block_lt HB6.out)).trans HB6.out) 2
    have uxl : ∀ p : CW (Ext w6), p6 < p.val.heap.size := fun p => ext_lt p.ok (block_lt HB6.out)
    refine wp_region_evt (C := Ext w6) hCE (ext_refl w6) [2, 4] [0] [(1, noneF elAR w6.heap.size), (3, rowF elAR w6.heap.size LA), (5, rowF elAR w6.heap.size (LA ++ LB)), (6, FoT t (edsL (LA ++ LB)) w6.heap.size)] [7, 8, 9, 10, 11] [1, 3, 5, 6] rfl (by kernel_rfl) (by kernel_rfl) (fun _ _ d _ _ h => by cases d <;> exact h) ?_
    refine wpPre_step rfl (fun K hK => ?_)
    go_simp
    refine hK _ ?_
    clear hK K
    refine wpPre_step rfl (fun K hK => ?_)
    go_simp
    refine hK _ ?_
    clear hK K
    refine wpPre_nil ?_
    refine wpC_step rfl (fun K hK => ?_)
    (try simp only [Oper.quietAt, Oper.quietUpon])
    go_simp
    refine ⟨_, fun _ => rfl, hK _ ?_⟩
    clear hK K
    refine wpC_nil ?_
    clear ux0 ux1 ux2 uxl hCE
    refine wpCh_step rfl rfl noneF_ext (fun w7 hE7 _ => ?_) (fun v48 => ?_)
    · simp only [runsAt]
      go_simp
      exact ⟨ext_trans hE7 (ext_alloc (ext_refl _) _), w7.heap.size, rfl, ext_size hE7, heap_alloc_new w7 _⟩
    refine wpCh_step rfl rfl rowF_ext (fun w7 hE7 hR7 => ?_) (fun v50 => ?_)
    · refine runs_append (t := 60) (.tmp 48) (.tmp 49) rfl rfl rfl ?_
      obtain ⟨v', w', h1, h2, h3⟩ := append_onto tpAR 60 w6.heap.size _ _ [] LA w7 (noneF_row hR7) (srcOf_acts (rdAR_ext HAB.out.1 hE7)) (by rw [List.length_nil]; omega) (ext_size hE7)
      exact ⟨v', w', h1, ext_of_upd (upd_trans (upd_of_ext hE7) (upd_grown h3) (fun i hi e => absurd hi (by have := (noneF_row hR7).2 _ e; omega))), h2⟩
    refine wpCh_step rfl rfl rowF_ext (fun w7 hE7 hR7 => ?_) (fun v52 => ?_)
    · refine runs_append (t := 60) (.tmp 50) (.tmp 51) rfl rfl rfl ?_
      obtain ⟨v', w', h1, h2, h3⟩ := append_onto tpAR 60 w6.heap.size _ _ LA LB w7 hR7 (srcOf_acts (rdAR_ext HAB.out.2 hE7)) (by omega) (ext_size hE7)
      exact ⟨v', w', h1, ext_of_upd (upd_trans (upd_of_ext hE7) (upd_grown h3) (fun i hi e => absurd hi (by have := hR7.2 _ e; omega))), h2⟩
    refine wpCh_step rfl rfl foT_ext (fun w7 hE7 hR7 => ?_) (fun v53 => ?_)
    · simp only [runsAt]
      go_simp
      refine (forest_any t _ _ (LA ++ LB) w7 (PV_ext HP6.out hE7) HZ.out (rdAR_row hR7.1 (fun x hx => (List.mem_append.1 hx).elim (HOK.out.1 x) (HOK.out.2 x))) (by rw [List.length_append]; omega)).mono ?_
      rintro e w8 ⟨wv, L8, ve8, rfl, hF8, hE8⟩
      exact ⟨_, rfl, ext_trans hE7 hE8, wv, L8, ve8, _, rfl, foR_low hF8 (ext_size hE7)⟩
    refine wpCh_nil (fun w7 hE7 hR7 => ?_)
    obtain ⟨w0', L', ve', N', rfl, hF7⟩ := hR7
    have HF7 := Lib.hid hF7
    have HE7 := Lib.hid (ext_trans HE6.out hE7)
    have HF6' := Lib.hid (foR_ext HF6.out hE7)
    clear hF7 hE7
    repeat (refine wpPre_step rfl (fun K hK => ?_); go_simp; refine hK _ ?_; clear hK K)
    refine wpPre_nil ?_
    go_wp2_with fail
    refine (pairs_foR HF7.out (edsL_nd _) (Nat.le_trans (edsL_len _) (by rw [List.length_append]; omega))).mono ?_
    rintro e w8 ⟨bq, NB, pb, rfl, hQb, hPb, -, hE8⟩
    have HQB := Lib.hid hQb
    have HPB := Lib.hid hPb
    have HF8 := Lib.hid (foR_ext HF6'.out hE8)
    have HE8 := Lib.hid (ext_trans HE7.out hE8)
    clear hQb hPb hE8
    go_wp2_with fail
    refine (pairs_foR HF8.out (edsL_nd _) (Nat.le_trans (edsL_len _) (by omega))).mono ?_
    rintro e w9 ⟨bp, NA, pa, rfl, hQa, hPa, hsa, hE9⟩
    have hne : bq ≠ bp := fun e => by have := mapG_lt HQB.out; omega
    have HNE := Lib.hid hne
    have HQA := Lib.hid hQa
    have HPA := Lib.hid hPa
    have HQB9 := Lib.hid (mapG_ext HQB.out hE9)
    have HE9 := Lib.hid (ext_trans HE8.out hE9)
    clear hQa hPa hE9 hne hsa
    go_wp2_with (first
      | (at_range; refine wpList_range_G _ rfl _ _ rfl Try.underlying65 rfl HQA.out ?_; intro wr r hr0; have HLR := Lib.hid hr0; clear hr0; intro hrng hEr hs2)
      | go_in)
    have HRN := Lib.hid hrng
    have HER := Lib.hid hEr
    clear hrng hEr hs2
    go_simp
    go_loopw [15] (fun _ wn => ∃ (done : List Two), RngG kQ eI bp r NA pa done wn ∧ Ext w9 wn) (fun _ wn => wn.rangeLeft bp r)
    case atStart => exact ⟨[], HRN.out, HER.out⟩
    case round =>
      rename World => wn
      obtain ⟨done, hR, hE⟩ := hrel
      have HR := Lib.hid hR
      have HE := Lib.hid hE
      clear hR hE
      go_wp2_with (first
        | (at_next; refine wpList_next_G wn rfl _ rfl rfl HR.out ?_ ?_)
        | go_in)
      · intro hall
        have HF := Lib.hid (ext_trans HE9.out HE.out)
        clear hall
        go_wp2
        refine bodyPost_ret (results_tmp rfl _ _ _) rfl ?_
        exact ⟨rfl, HF.out⟩
      · intro x lasts w3' hfx hnx hR3 hlt3 hg3 hs3 hent
        rw [show kQ.val x = .agg #[.int .i64 x.a, .int .i64 x.b] from rfl, show eI.val lasts = .int .i64 lasts from rfl] at hent ⊢
        obtain ⟨xa, xb⟩ := x
        obtain ⟨u, hu, hlu⟩ := prsOf_le HPA.out HPB.out (leG_more LA LB) hfx
        have hE3 : Ext w9 w3' := ext_of_upd (upd_trans (upd_of_ext HE.out) (upd_grown hg3) (fun j hj e => absurd hj (by have h5 : r = j := Option.some.inj e; have := HLR.out; omega)))
        have hok : ok2 ⟨xa, xb⟩ := (mapG_out HQA.out hfx).1
        have hlk : (Instr.lookup 65 (.map (some bq)) (.agg #[.int .i64 xa, .int .i64 xb]) true).run Try.prog (w3'.alloc (.cells #[.int .i64 xa, .int .i64 xb] 68)) = .ok (.tuple #[.int .i64 u, .bool true]) (w3'.alloc (.cells #[.int .i64 xa, .int .i64 xb] 68)) := by
          have h3 := look2_G Try.underlying65 (mapG_ext HQB9.out (ext_trans hE3 (ext_alloc (ext_refl _) (.cells #[.int .i64 xa, .int .i64 xb] 68)))) (x := ⟨xa, xb⟩) hok
          rw [hu] at h3
          exact h3
        have HR3 := Lib.hid (rngG_ext hR3 (ext_alloc (ext_refl _) (.cells #[.int .i64 xa, .int .i64 xb] 68)))
        have HL3 := Lib.hid (show (w3'.alloc (.cells #[.int .i64 xa, .int .i64 xb] 68)).rangeLeft bp r < wn.rangeLeft bp r by rw [left_ext hR3 (ext_alloc (ext_refl _) _)]; exact hlt3)
        have HE3 := Lib.hid (ext_trans hE3 (ext_alloc (ext_refl _) (.cells #[.int .i64 xa, .int .i64 xb] 68)))
        have hlt : ¬ u < lasts := by omega
        clear hfx hnx hR3 hlt3 hg3 hs3 hu hE3 hok
        go_wp2
        go_roundw
        case rel => exact ⟨_, HR3.out, HE3.out⟩
        case measure => exact HL3.out
  · have hzb : decide (chk t = 0) = false := by simpa using hz
    go_wp2
    refine bodyPost_ret (results_tmp rfl _ _ _) rfl ?_
    exact ⟨rfl, HE5.out⟩
end Go.Proofs.Ytiabmdboacpmcaa
/- Has, walked; bounds of edges; the pairs of a path are one. -/
namespace Go.Proofs.Ytiabmdboacpmcaa
open Go Go.RowKit Go.Sort Go.WideMaps Go.Maps
set_option maxHeartbeats 4000000

theorem addL_mem : ∀ {E : List Ed} {k : Key} {u : Int} {e : Ed}, e ∈ addL E k u → e ∈ E ∨ (e.1 = k ∧ e.2 = u)
  | [], k, u, e, h => by
    simp only [addL, List.mem_singleton] at h
    subst h
    exact .inr ⟨rfl, rfl⟩
  | x :: L, k, u, e, h => by
    rw [addL] at h
    split at h
    · rename_i hx
      rcases List.mem_cons.1 h with h | h
      · subst h
        simp only
        split
        · exact .inr ⟨hx, rfl⟩
        · exact .inl (List.mem_cons_self ..)
      · exact .inl (List.mem_cons_of_mem _ h)
    · rcases List.mem_cons.1 h with h | h
      · exact .inl (by rw [h]; exact List.mem_cons_self ..)
      · rcases addL_mem h with h1 | h1
        · exact .inl (List.mem_cons_of_mem _ h1)
        · exact .inr h1
/-- an edge of small numbers -/
def smallE (e : Ed) : Prop := 0 ≤ e.1.a ∧ e.1.a < 5 ∧ 0 ≤ e.1.b ∧ e.1.b < 5 ∧ 0 ≤ e.1.c ∧ e.1.c < 5 ∧ -1000 < e.2 ∧ e.2 < 1000
theorem foldl_small : ∀ (L : List AR) (E : List Ed), (∀ e ∈ E, smallE e) → ∀ e ∈ L.foldl (fun E x => addL E (absK x.key) (untZ x.till)) E, smallE e
  | [], _, h => h
  | x :: L, E, h => foldl_small L _ (fun e he => by
    rcases addL_mem he with h1 | ⟨h1, h2⟩
    · exact h e h1
    · have ha := absZ_le x.key.a
      have hb := absZ_le x.key.b
      have hc := absZ_le x.key.c
      have hu := untZ_le x.till
      unfold smallE
      rw [h1, h2]
      unfold absK
      simp only
      omega)
theorem edsL_small (L : List AR) : ∀ e ∈ edsL L, smallE e := foldl_small L [] (fun e he => by cases he)
theorem smallE_ok {e : Ed} (h : smallE e) : ok3 e.1 ∧ okI e.2 := by
  obtain ⟨h1, h2, h3, h4, h5, h6, h7, h8⟩ := h
  exact ⟨⟨okI_iff.2 (by omega), okI_iff.2 (by omega), okI_iff.2 (by omega)⟩, okI_iff.2 (by omega)⟩
theorem prs_one {L : List Sy → Prop} {E : Gr3} {p p' : Prs} (h : PrsOf L E p) (h' : PrsOf L E p') (q : Two) : p q = p' q := by
  obtain ⟨x, y⟩ := q
  cases hp : p ⟨x, y⟩ with
  | some v => exact ((h'.is x y v).2 ((h.is x y v).1 hp)).symm
  | none =>
    cases hp' : p' ⟨x, y⟩ with
    | none => rfl
    | some v =>
      have := (h.is x y v).2 ((h'.is x y v).1 hp')
      rw [hp] at this
      cases this
set_option maxRecDepth 100000 in
theorem has_foR {t : Tr} {E : List Ed} {H N : Nat} {w0 : World} {L : Loc} {ve : Value} {w : World} {p : Prs} (x y : Int) (h : FoR t E H N w0 L ve w) (hnd : KeysNd E) (hl : E.length ≤ 100) (hx : okI x) (hy : okI y) (hp : PrsOf (Words t) (grOf E) p) :
    Calls Try.prog 40 #[ptr L.pf, .int .i64 x, .int .i64 y] w fun e w' => e = .returned (.bool (p ⟨x, y⟩).isSome) ∧ Ext w w' := by
  have HP := Lib.hid (pairs_foR h hnd hl)
  have HX := Lib.hid (show ok2 ⟨x, y⟩ from ⟨hx, hy⟩)
  have HPP := Lib.hid hp
  clear h hnd hl hx hy hp
  go_enter Try.func40, Try.ntmps40
  go_wp2_with fail
  refine HP.out.mono ?_
  rintro e w1 ⟨qb, Nq, p', rfl, hQ, hP, -, hE⟩
  have hpe := prs_one hP HPP.out ⟨x, y⟩
  have HE := Lib.hid hE
  cases hpc : p ⟨x, y⟩ with
  | none =>
    have HB := Lib.hid (show (p ⟨x, y⟩).isSome = false by rw [hpc]; rfl)
    have hlk : (Instr.lookup 65 (.map (some qb)) (.agg #[.int .i64 x, .int .i64 y]) true).run Try.prog w1 = .ok (.tuple #[.int .i64 0, .bool false]) w1 := by
      have h3 := look2_G Try.underlying65 hQ (x := ⟨x, y⟩) HX.out
      rw [hpe, hpc] at h3
      exact h3
    clear hQ hP hpe hE hpc
    go_wp2
    refine bodyPost_ret (results_tmp rfl _ _ _) rfl ?_
    exact ⟨by rw [HB.out]; rfl, HE.out⟩
  | some v =>
    have HB := Lib.hid (show (p ⟨x, y⟩).isSome = true by rw [hpc]; rfl)
    have hlk : (Instr.lookup 65 (.map (some qb)) (.agg #[.int .i64 x, .int .i64 y]) true).run Try.prog w1 = .ok (.tuple #[.int .i64 v, .bool true]) w1 := by
      have h3 := look2_G Try.underlying65 hQ (x := ⟨x, y⟩) HX.out
      rw [hpe, hpc] at h3
      exact h3
    clear hQ hP hpe hE hpc
    go_wp2
    refine bodyPost_ret (results_tmp rfl _ _ _) rfl ?_
    exact ⟨by rw [HB.out]; rfl, HE.out⟩
end Go.Proofs.Ytiabmdboacpmcaa
/- ReachSteps. -/
namespace Go.Proofs.Ytiabmdboacpmcaa
open Go Go.RowKit Go.Sort Go.WideMaps Go.Maps
set_option maxHeartbeats 4000000

/-- a path of one step -/
def oneN (n : Int) : Tr := .node 0 n []
theorem chk_oneN {n : Int} (h : 0 ≤ n) : chk (oneN n) = 0 := by
  simp [chk, oneN, deepB, deepL, sizeT, sizeL, formB, h]
theorem prs_step {n : Int} {E : List Ed} {p : Prs} (hnd : KeysNd E) (hs : ∀ e ∈ E, smallE e) (h : PrsOf (Words (oneN n)) (grOf E) p) (x y : Int) : p ⟨x, y⟩ = grOf E ⟨x, n, y⟩ := by
  have hl : ∀ t, Lead (Words (oneN n)) (grOf E) x y t ↔ ∃ u, grOf E ⟨x, n, y⟩ = some u ∧ t ≤ u := fun t => by
    constructor
    · rintro ⟨_, _, w, h3, h4⟩
      simp only [oneN, Words, if_pos] at h3
      subst h3
      have := run_one.1 h4
      simpa using this
    · rintro ⟨u, h1, h2⟩
      have h5 := hs _ ((grOf_some hnd).1 h1)
      unfold smallE at h5
      refine ⟨⟨_, u, h1, .inl rfl⟩, by unfold forever; simp only at h5; omega, [(n, false)], by simp [oneN, Words], run_one.2 ⟨u, by simpa using h1, h2⟩⟩
  cases hg : grOf E ⟨x, n, y⟩ with
  | some u => exact (h.is x y u).2 ⟨(hl u).2 ⟨u, hg, Int.le_refl _⟩, fun t ht => by
      obtain ⟨u', h1, h2⟩ := (hl t).1 ht
      rw [hg] at h1
      cases h1
      exact h2⟩
  | none =>
    cases hp : p ⟨x, y⟩ with
    | none => rfl
    | some v =>
      obtain ⟨u, h1, _⟩ := (hl v).1 ((h.is x y v).1 hp).1
      rw [hg] at h1
      cases h1
def isN (n : Int) (e : Ed) : Bool := decide (e.1.b = n)
theorem count_step {n : Int} {E : List Ed} {p : Prs} {b N : Nat} {w : World} (hnd : KeysNd E) (hs : ∀ e ∈ E, smallE e) (h : PrsOf (Words (oneN n)) (grOf E) p) (hm : MapQ b N p w) : N = E.countP (isN n) := by
  have hk := mapG_card hm (L := (E.filter (isN n)).map fun e => ⟨e.1.a, e.1.c⟩) ?_ ?_
  · rw [← hk, List.length_map, List.countP_eq_length_filter]
  · have h1 : (E.filter (isN n)).Nodup := List.Nodup.sublist (List.filter_sublist ..) (by
      have h2 : (E.map (·.1)).Nodup := hnd
      exact (List.pairwise_map.1 h2).imp (fun {a b} h3 e => h3 (by rw [e])))
    refine List.pairwise_map.2 (List.Pairwise.imp_of_mem (fun {a b} ha hb hne e => ?_) (List.Pairwise.sublist (List.filter_sublist (p := isN n)) (List.pairwise_map.1 (show (E.map (·.1)).Pairwise (· ≠ ·) from hnd))))
    have h4 := of_decide_eq_true (List.mem_filter.1 ha).2
    have h5 := of_decide_eq_true (List.mem_filter.1 hb).2
    simp only [Two.mk.injEq] at e
    exact hne (by
      obtain ⟨⟨a1, a2, a3⟩, a4⟩ := a
      obtain ⟨⟨b1, b2, b3⟩, b4⟩ := b
      simp only at h4 h5 e ⊢
      rw [h4, h5, e.1, e.2])
  · rintro ⟨x, y⟩
    rw [prs_step hnd hs h, grOf_isSome, List.mem_map, List.mem_map]
    constructor
    · rintro ⟨e, he, hxy⟩
      obtain ⟨h4, h5⟩ := List.mem_filter.1 he
      have h6 := of_decide_eq_true h5
      obtain ⟨⟨a1, a2, a3⟩, a4⟩ := e
      simp only [Two.mk.injEq] at hxy h6
      exact ⟨_, h4, by simp only; rw [hxy.1, hxy.2, h6]⟩
    · rintro ⟨e, he, hk⟩
      obtain ⟨⟨a1, a2, a3⟩, a4⟩ := e
      simp only [Key.mk.injEq] at hk
      exact ⟨_, List.mem_filter.2 ⟨he, by simp [isN, hk.2.1]⟩, by simp only; rw [hk.1, hk.2.2]⟩
theorem count_take {n : Int} {E : List Ed} {j : Nat} {e : Ed} (h : E[j]? = some e) : (E.take (j + 1)).countP (isN n) = (E.take j).countP (isN n) + if isN n e = true then 1 else 0 := by
  rw [List.take_add_one, h, Option.toList_some, List.countP_append, List.countP_cons, List.countP_nil]
  omega
set_option maxRecDepth 100000 in
theorem steps_law (t : Nat) (va : Value) (LA : List AR) (w : World) (ht : t ≤ 255) (ha : RdAR w va LA) : Calls Try.prog 11 #[.int .u8 (t : Int), va] w fun e w' => e = .returned (.bool true) ∧ Ext w w' := by
  have HA := Lib.hid ha
  obtain ⟨A1, c1, rfl, hok1, -⟩ := ha
  obtain ⟨na, hna⟩ : ∃ n, n = LA.length := ⟨_, rfl⟩
  rw [← hna] at HA ⊢
  have HN := Lib.hid hna
  clear hna hok1
  go_enter Try.func11, Try.ntmps11
  go_wp2_with fail
  refine (awake11_any _).mono ?_
  rintro e w1 ⟨rfl, hE1⟩
  have HE1 := Lib.hid hE1
  clear hE1
  by_cases hbna : (20 : Int) < (na : Int)
  · go_wp2_with fail
    refine (awake11_any _).mono ?_
    rintro e w2 ⟨rfl, hE2⟩
    have HE2 := Lib.hid (ext_trans HE1.out hE2)
    clear hE2
    go_wp2
    refine bodyPost_ret (results_tmp rfl _ _ _) rfl ?_
    exact ⟨rfl, HE2.out⟩
  have hna : LA.length ≤ 20 := by rw [← HN.out]; omega
  have hbd := fun (v : Int) (w : World) => run_build (P := Try.prog) w 30 #[(1, .int .i64 v)] #[.int .i64 0, .int .i64 v, .slice none 0 0] (by kernel_rfl)
  go_wp2_with fail
  obtain ⟨n, hn⟩ : ∃ n : Int, n = (t : Int) % 5 := ⟨_, rfl⟩
  have hn5 : 0 ≤ n ∧ n < 5 := by omega
  rw [← hn]
  have hv : PV w1 (oneN n) (.agg #[.int .i64 0, .int .i64 n, .slice none 0 0]) := ⟨_, rfl, none, 0, rfl, fun h => absurd rfl h⟩
  refine (forest_any (oneN n) _ _ LA w1 hv (chk_oneN hn5.1) (rdAR_ext HA.out HE1.out) (by omega)).mono ?_
  rintro e w2 ⟨w0, Lc, ve, rfl, hF2, hE2⟩
  have HF2 := Lib.hid hF2
  have HE2 := Lib.hid (ext_trans HE1.out hE2)
  clear hF2 hE2 hbd hv hn
  obtain ⟨E, hEE⟩ : ∃ E, E = edsL LA := ⟨_, rfl⟩
  have HND := Lib.hid (show KeysNd E by rw [hEE]; exact edsL_nd _)
  have HSM := Lib.hid (show ∀ e ∈ E, smallE e by rw [hEE]; exact edsL_small _)
  have hel : E.length ≤ 20 := by rw [hEE]; exact Nat.le_trans (edsL_len _) hna
  rw [← hEE] at HF2
  clear hEE
  go_wp2_with fail
  refine (pairs_foR HF2.out HND.out (by omega)).mono ?_
  rintro e w3 ⟨qb, NQ, p, rfl, hQ, hP, -, hE3⟩
  have HQ := Lib.hid hQ
  have HP := Lib.hid hP
  have HCN := Lib.hid (count_step HND.out HSM.out hP hQ)
  have HF3 := Lib.hid (foR_ext HF2.out hE3)
  have HE3 := Lib.hid (ext_trans HE2.out hE3)
  clear hQ hP hE3
  have hrow : rowF elDr w1.heap.size E ve w3 := by obtain ⟨F, _, _, h3, _⟩ := HF3.out; exact h3
  obtain ⟨A3, c3, hve⟩ := rowE_form hrow.1
  obtain ⟨ne, hne⟩ : ∃ n, n = E.length := ⟨_, rfl⟩
  rw [← hne] at hve hel
  have HROW := Lib.hid hrow
  subst hve
  have HNE := Lib.hid hne
  clear hrow hne
  go_wp2
  go_loopw [9, 36] (fun y x wn => ∃ j : Nat, j ≤ ne ∧ x = .int .i64 (j : Int) ∧ y = .int .i64 ((E.take j).countP (isN n) : Int) ∧ Ext w3 wn) (fun _ x _ => ne - (intOf x).toNat)
  case atStart => exact ⟨0, by omega, rfl, by simp, ext_refl _⟩
  case round =>
    rename World => wi
    obtain ⟨j, hj, rfl, rfl, hE⟩ := hrel
    have HE := Lib.hid hE
    clear hE
    have hcj : (E.take j).countP (isN n) ≤ j := Nat.le_trans (List.countP_le_length) (by rw [List.length_take]; omega)
    obtain ⟨cj, hcje⟩ : ∃ c, c = (E.take j).countP (isN n) := ⟨_, rfl⟩
    rw [← hcje] at hcj ⊢
    have HCJ := Lib.hid hcje
    clear hcje
    by_cases hlt : j < ne
    · have hji : (j : Int) < (ne : Int) := by omega
      have hj0 : (0 : Int) ≤ (j : Int) := by omega
      obtain ⟨x, hx⟩ : ∃ x, E[j]? = some x := ⟨_, List.getElem?_eq_getElem (by rw [← HNE.out]; exact hlt)⟩
      have HX := Lib.hid hx
      have hri := rowF_ext _ _ _ HE.out HROW.out
      obtain ⟨g, rfl, lg⟩ := rowE_some hri.1 (fun e => by rw [e] at hx; simp at hx)
      have e0 : wi.cell? ⟨g, j * 4, none⟩ = some (.int .i64 x.1.a) := rowE_cell hri.1 hx (j := 0) (u := .int .i64 x.1.a) rfl
      have e1 : wi.cell? ⟨g, j * 4 + 1, none⟩ = some (.int .i64 x.1.b) := rowE_cell hri.1 hx (j := 1) (u := .int .i64 x.1.b) rfl
      have e2 : wi.cell? ⟨g, j * 4 + 2, none⟩ = some (.int .i64 x.1.c) := rowE_cell hri.1 hx (j := 2) (u := .int .i64 x.1.c) rfl
      have e3 : wi.cell? ⟨g, j * 4 + 3, none⟩ = some (.int .i64 x.2) := rowE_cell hri.1 hx (j := 3) (u := .int .i64 x.2) rfl
      obtain ⟨wx, hwx⟩ : ∃ wx, wx = wi.alloc (.cells #[.int .i64 x.1.a, .int .i64 x.1.b, .int .i64 x.1.c, .int .i64 x.2] 75) := ⟨_, rfl⟩
      have hEx : Ext wi wx := by rw [hwx]; exact ext_alloc (ext_refl _) _
      obtain ⟨bx, hbx⟩ : ∃ b, b = wi.heap.size := ⟨_, rfl⟩
      have hXX : wx.heap[bx]? = some (.cells #[.int .i64 x.1.a, .int .i64 x.1.b, .int .i64 x.1.c, .int .i64 x.2] 75 (0, 0)) := by rw [hwx, hbx]; exact heap_alloc_new _ _
      have HXX := Lib.hid hXX
      have HEX := Lib.hid (ext_trans HE.out hEx)
      have HSX := Lib.hid (HSM.out x (List.mem_of_getElem? hx))
      have HCT := Lib.hid (count_take (n := n) hx)
      clear hx hri hEx hXX
      by_cases hb : x.1.b = n
      · have hgr : p ⟨x.1.a, x.1.c⟩ = some x.2 := by
          rw [prs_step HND.out HSM.out HP.out, ← hb]
          exact (grOf_some HND.out).2 (List.mem_of_getElem? HX.out)
        have hlk : (Instr.lookup 65 (.map (some qb)) (.agg #[.int .i64 x.1.a, .int .i64 x.1.c]) true).run Try.prog (wi.alloc (.cells #[.int .i64 x.1.a, .int .i64 x.1.b, .int .i64 x.1.c, .int .i64 x.2] 75)) = .ok (.tuple #[.int .i64 x.2, .bool true]) (wi.alloc (.cells #[.int .i64 x.1.a, .int .i64 x.1.b, .int .i64 x.1.c, .int .i64 x.2] 75)) := by
          rw [← hwx]
          have h3 := look2_G Try.underlying65 (mapG_ext HQ.out HEX.out) (x := ⟨x.1.a, x.1.c⟩) ⟨(smallE_ok HSX.out).1.1, (smallE_ok HSX.out).1.2.2⟩
          rw [hgr] at h3
          exact h3
        have HGR := Lib.hid (show (p ⟨x.1.a, x.1.c⟩).isSome = true by rw [hgr]; rfl)
        have HB := Lib.hid hb
        clear hgr hb
        have hcw : IntKind.i64.wrap ((cj : Int) + 1) = (cj : Int) + 1 := IntWalk.i64_in _ (by omega)
        have hbn : (x.1.b != n) = false := by simp [HB.out]
        have HBX := Lib.hid (And.intro hwx hbx)
        clear hwx hbx
        go_wp2_with fail
        rw [← HBX.out.1]
        refine (has_foR x.1.a x.1.c (foR_ext HF3.out HEX.out) HND.out (by rw [← HNE.out]; omega) (smallE_ok HSX.out).1.1 (smallE_ok HSX.out).1.2.2 HP.out).mono ?_
        rintro e wy ⟨rfl, hEy⟩
        rw [HGR.out]
        have HEY := Lib.hid (ext_trans HEX.out hEy)
        have HCT' := Lib.hid (show (E.take (j + 1)).countP (isN n) = cj + 1 by rw [HCT.out, if_pos (by simp [isN, HB.out]), HCJ.out])
        clear hEy
        go_wp2
        go_roundw
        case rel => exact ⟨j + 1, by omega, by go_num, by rw [HCT'.out]; go_num, HEY.out⟩
        case measure => simp [intOf]; omega
      · have hbn : (x.1.b != n) = true := by simp [hb]
        have HB := Lib.hid hb
        have HBX := Lib.hid (And.intro hwx hbx)
        have HCT' := Lib.hid (show (E.take (j + 1)).countP (isN n) = cj by rw [HCT.out, if_neg (by simp [isN, hb]), HCJ.out]; rfl)
        clear hwx hbx hb
        go_wp2
        go_roundw
        case rel => exact ⟨j + 1, by omega, by go_num, by rw [HCT'.out], by rw [← HBX.out.1]; exact HEX.out⟩
        case measure => simp [intOf]; omega
    · have h5 : j = ne := by omega
      subst h5
      have hcn : cj = NQ := by rw [HCN.out, HCJ.out, HNE.out, List.take_length]
      subst hcn
      have hl1 : ∀ ty, (Builtin.len_ #[65] ty #[.map (some qb)]).run Try.prog wi = .ok (.int .i64 ((cj : Nat) : Int)) wi := fun ty => len_G Try.underlying65 (mapG_ext HQ.out HE.out)
      have HF := Lib.hid (ext_trans HE3.out HE.out)
      go_wp2
      refine bodyPost_ret (results_tmp rfl _ _ _) rfl ?_
      exact ⟨by simp, HF.out⟩
end Go.Proofs.Ytiabmdboacpmcaa
/- ReachSteps: by one step just the ends of its predicate's edges are paired, for as long as these last. No condition. -/
namespace Go.Proofs.Ytiabmdboacpmcaa
open Go.ChangeShapes Go.WideShapes Go.ChangeAt Go.WideMaps Go.WideElems Go.RowKit

set_option maxRecDepth 100000 in
theorem steps_lifted (os : Os) (started : os.Started) (H : Type) (enc : TypeId × Value → H) :
    ReturnsInHanded {} Try.checked os 11 .any (Rows.reachStepsSpec.pre6 enc Try.prog Try.f11 Rows.reachStepsRow.domain false) (Rows.reachStepsSpec.post enc Try.prog Try.f11 false true false false) := by
  refine returnsInHanded_of_change_sized (C := Try.checked) own started (by kernel_rfl) Try.func11
    (ChangeSpec.witness6 (enc := enc) (C := Try.checked) false ⟨#[], #[.int .u8 0, .slice none 0 0], []⟩ 8 (by kernel_rfl) (by kernel_rfl) (by kernel_rfl) (by kernel_rfl)) ?_
  intro W base args ds gs before hval0 hW _ hsz0 _
  clear hsz0
  have hval : ∀ (j : Nat) t v, Try.f11.params[j]? = some t → args[j]? = some v → Value.okWide Try.prog W .any base t v := hval0
  have hW' := hW
  obtain ⟨p, q, hA0, hV, rfl, hfz, hnd⟩ := hW
  have hA : DataW.TrodAll enc Try.prog W 0 (fun _ => true) true Try.f11.params.toList args.toList ds p := hA0
  rw [Try.params11] at hA hval
  obtain ⟨v0, vs0, d0, ds0, p0, q0, hargs, rfl, rfl, h0, r0⟩ := trodAll_cons hA
  obtain ⟨v1, vs1, d1, ds1, p1, q1, rfl, rfl, rfl, h1, r1⟩ := trodAll_cons r0
  obtain ⟨rfl, rfl, rfl⟩ := trodAll_nil r1
  obtain rfl : args = #[v0, v1] := by cases args; simp_all
  obtain ⟨rfl, rfl⟩ := trodVars_none hV
  obtain ⟨o0, rfl, rfl, rfl, w0⟩ := open_int Try.underlying5 (hval 0 5 v0 rfl rfl) h0
  have b0 : 0 ≤ o0 ∧ o0 ≤ 255 := bounds_u8 w0
  obtain ⟨t0, rfl⟩ := Int.eq_ofNat_of_zero_le b0.1
  have lt1 : ∀ x ∈ p1, x.block < W.heap.size := by obtain ⟨m, hm⟩ := h1; exact DataW.trod_lt m _ _ _ hm
  obtain ⟨L1, ha1⟩ := open_acts (hval 1 60 v1 rfl rfl) h1
  clear hA0 hval0
  refine (steps_law t0 v1 L1 W (by omega) ha1).mono fun e W' ⟨he, bel⟩ => ?_
  subst he
  have bel : Below W.heap.size W W' := bel
  exact ⟨_, rfl, _, _, _, [], _, [], hW', trodAll_mk1 (shut_bool Try.underlying4 _), (trodAll_cons_mk (shut_int Try.underlying5 w0) (trodAll_cons_mk (Below.trod laidOut (by kernel_rfl) (of_decide_eq_true (by kernel_rfl)) h1 bel lt1) trodAll_mk0)), rfl, bel.frame _, fun h => by cases h⟩

theorem steps_holds : Rows.ReachStepsSaid :=
  OpenClaim.holds_of_wide 11 Try.f11 rfl rfl rfl rfl rfl rfl rfl ⟨rfl, rfl, rfl, rfl, rfl⟩ rfl rfl rfl rfl rfl (by kernel_rfl) Try.func11 (by kernel_rfl)
    (of_decide_eq_true (by kernel_rfl)) (by unfold Func.isWrapper; first | (rw [if_pos (by decide +kernel)]; kernel_rfl) | (rw [if_neg (by decide +kernel)]; exact ⟨rfl, rfl⟩))
    (fun os started H enc _ => steps_lifted os started H enc)
#print axioms steps_holds
end Go.Proofs.Ytiabmdboacpmcaa
