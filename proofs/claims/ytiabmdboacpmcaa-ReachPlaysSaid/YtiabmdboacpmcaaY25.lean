/- Texts joined: Hv Hw Ia Ie If Ka Kc. -/
import Derived.Test.YtiabmdboacpmcaaY23
import Derived.Test.YtiabmdboacpmcaaY04
import Derived.Test.YtiabmdboacpmcaaY19
/- Rows of acts. -/
namespace Go.Proofs.Ytiabmdboacpmcaa
open Go Go.RowKit Go.Sort Go.WideMaps Go.Maps
set_option maxHeartbeats 4000000

def elAR : El AR := ⟨fun x => [.int .u8 x.kind, .int .i64 x.key.a, .int .i64 x.key.b, .int .i64 x.key.c, .int .i64 x.till], 5, 82, by decide, fun _ => rfl, fun x u hu => by
  rcases List.mem_cons.1 hu with rfl | hu
  · rfl
  · rcases List.mem_cons.1 hu with rfl | hu
    · rfl
    · rcases List.mem_cons.1 hu with rfl | hu
      · rfl
      · rcases List.mem_cons.1 hu with rfl | hu
        · rfl
        · rw [List.mem_singleton.1 hu]; rfl⟩
noncomputable def tpAR : Tp Try.prog 60 elAR := ⟨(Try.prog.info? 82).get (by kernel_rfl), .agg #[.int .u8 0, .int .i64 0, .int .i64 0, .int .i64 0, .int .i64 0], 40, Try.underlying60, by kernel_rfl, by kernel_rfl, by kernel_rfl, by kernel_rfl, rfl, by decide⟩
theorem srcOf_acts {w : World} {v : Value} {L : List AR} (h : RdAR w v L) : SrcOf elAR w v L := by
  obtain ⟨A, c, rfl, _, h3⟩ := h
  refine ⟨A, c, rfl, fun hne => ?_⟩
  obtain ⟨b, off, rfl, lb, hc⟩ := h3 hne
  refine ⟨_, rfl, fun j u hu => ?_⟩
  have hj : j < L.length * 5 := by
    have := (List.getElem?_eq_some_iff.1 hu).1
    rw [flatE_length] at this
    exact this
  obtain ⟨i, r, hr, hij⟩ : ∃ i r, r < 5 ∧ j = i * 5 + r := ⟨j / 5, j % 5, Nat.mod_lt _ (by omega), by omega⟩
  have hi : i < L.length := by omega
  obtain ⟨x, hx⟩ : ∃ x, L[i]? = some x := ⟨_, List.getElem?_eq_getElem hi⟩
  have hf := flatE_at elAR L i x hx r hr
  rw [hij] at hu
  have hu' : (flatE elAR L)[i * elAR.size + r]? = some u := hu
  rw [hf] at hu'
  obtain ⟨c0, c1, c2, c3, c4⟩ := hc i x hx
  rw [addr_add0, hij]
  rcases (by omega : r = 0 ∨ r = 1 ∨ r = 2 ∨ r = 3 ∨ r = 4) with rfl | rfl | rfl | rfl | rfl
  · cases hu'; exact c0
  · cases hu'; exact c1
  · cases hu'; exact c2
  · cases hu'; exact c3
  · cases hu'; exact c4
theorem rdAR_row {w : World} {v : Value} {L : List AR} (h : rowE elAR w v L) (hok : ∀ x ∈ L, ok3 x.key ∧ okI x.till) : RdAR w v L := by
  obtain ⟨A, c, rfl⟩ := rowE_form h
  refine ⟨A, c, rfl, hok, fun hne => ?_⟩
  obtain ⟨g, rfl, hg⟩ := rowE_some h hne
  refine ⟨g, 0, rfl, hg, fun i x hx => ?_⟩
  rw [Nat.zero_add]
  exact ⟨rowE_cell h hx (j := 0) rfl, rowE_cell h hx (j := 1) rfl, rowE_cell h hx (j := 2) rfl, rowE_cell h hx (j := 3) rfl, rowE_cell h hx (j := 4) rfl⟩
theorem leG_refl (E : Gr3) : leG E E := fun _ => leO_refl _
theorem leG_trans {E E' E'' : Gr3} (h : leG E E') (k : leG E' E'') : leG E E'' := fun x => leO_trans (h x) (k x)
theorem leG_add (E : List Ed) (k : Key) (u : Int) : leG (grOf E) (grOf (addL E k u)) := by
  rw [grOf_add]
  cases hk : grOf E k with
  | none => exact setG_le (fun v hv => by rw [hk] at hv; cases hv)
  | some v =>
    simp only
    split
    · exact setG_le (fun v' hv => by rw [hk] at hv; cases hv; omega)
    · exact leG_refl _
theorem leG_foldl : ∀ (L : List AR) (E : List Ed), leG (grOf E) (grOf (L.foldl (fun E x => addL E (absK x.key) (untZ x.till)) E))
  | [], _ => leG_refl _
  | _x :: L, E => leG_trans (leG_add E _ _) (leG_foldl L _)
theorem leG_more (L M : List AR) : leG (grOf (edsL L)) (grOf (edsL (L ++ M))) := by
  unfold edsL
  rw [List.foldl_append]
  exact leG_foldl M _
/-- a forest among others: as a call hands it over -/
def FoT (t : Tr) (E : List Ed) (H : Nat) (v : Value) (w : World) : Prop := ∃ w0 L ve N, v = .tuple #[ptr L.pf, ve] ∧ FoR t E H N w0 L ve w
theorem foT_ext {t : Tr} {E : List Ed} {H : Nat} (v : Value) (w w' : World) (hE : Ext w w') (h : FoT t E H v w) : FoT t E H v w' := by
  obtain ⟨w0, L, ve, N, h1, h2⟩ := h
  exact ⟨w0, L, ve, N, h1, foR_ext h2 hE⟩
theorem foR_fo {t : Tr} {E : List Ed} {H N : Nat} {w0 : World} {L : Loc} {ve : Value} {w : World} (h : FoR t E H N w0 L ve w) : ∃ F, Fo t w0 L 100 minI (grOf E) F w := by
  obtain ⟨F, h1, _⟩ := h
  exact ⟨F, h1⟩
theorem pairs_foR {t : Tr} {E : List Ed} {H N : Nat} {w0 : World} {L : Loc} {ve : Value} {w : World} (h : FoR t E H N w0 L ve w) (hnd : KeysNd E) (hl : E.length ≤ 100) : Calls Try.prog 38 #[ptr L.pf] w (PairsTo t (grOf E) w) := by
  obtain ⟨F, h1, _⟩ := h
  exact pairs_any t w0 L 100 minI (grOf E) F (E.map (·.1)) w h1 (card_of hnd) (by rw [List.length_map]; exact hl)
end Go.Proofs.Ytiabmdboacpmcaa
/- ReachMore. -/
namespace Go.Proofs.Ytiabmdboacpmcaa
open Go Go.RowKit Go.Sort Go.WideMaps Go.Maps
set_option maxHeartbeats 4000000

theorem foR_low {t : Tr} {E : List Ed} {H H' N : Nat} {w0 : World} {L : Loc} {ve : Value} {w : World} (h : FoR t E H N w0 L ve w) (hh : H' ≤ H) : FoR t E H' N w0 L ve w := by
  obtain ⟨F, h1, h2, h3, h4⟩ := h
  exact ⟨F, h1, fun b hb => ⟨Nat.le_trans hh (h2 b hb).1, (h2 b hb).2⟩, rowF_low h3 hh, h4⟩
set_option maxRecDepth 100000 in
theorem more_law (v va vb : Value) (L : List Nd) (LA LB : List AR) (w : World) (hv : RdNd w v L) (ha : RdAR w va LA) (hb : RdAR w vb LB) : Calls Try.prog 9 #[v, va, vb] w fun e w' => e = .returned (.bool true) ∧ Ext w w' := by
  have HV := Lib.hid hv
  have HA := Lib.hid ha
  have HB := Lib.hid hb
  obtain ⟨A1, c1, rfl, hok1, -⟩ := ha
  obtain ⟨A2, c2, rfl, hok2, -⟩ := hb
  have HOK := Lib.hid (And.intro hok1 hok2)
  obtain ⟨na, hna⟩ : ∃ n, n = LA.length := ⟨_, rfl⟩
  obtain ⟨nb, hnb⟩ : ∃ n, n = LB.length := ⟨_, rfl⟩
  rw [← hna] at HA ⊢
  rw [← hnb] at HB ⊢
  have HN := Lib.hid (And.intro hna hnb)
  clear hv hna hnb hok1 hok2
  go_enter Try.func9, Try.ntmps9
  go_wp2_with fail
  refine (awake11_any _).mono ?_
  rintro e w1 ⟨rfl, hE1⟩
  have HE1 := Lib.hid hE1
  clear hE1
  by_cases hbna : (10 : Int) < (na : Int)
  · go_wp2_with fail
    refine (awake11_any _).mono ?_
    rintro e w2 ⟨rfl, hE2⟩
    have HE2 := Lib.hid (ext_trans HE1.out hE2)
    clear hE2
    go_wp2
    refine bodyPost_ret (results_tmp rfl _ _ _) rfl ?_
    exact ⟨rfl, HE2.out⟩
  by_cases hbnb : (10 : Int) < (nb : Int)
  · go_wp2_with fail
    refine (awake11_any _).mono ?_
    rintro e w2 ⟨rfl, hE2⟩
    have HE2 := Lib.hid (ext_trans HE1.out hE2)
    clear hE2
    go_wp2
    refine bodyPost_ret (results_tmp rfl _ _ _) rfl ?_
    exact ⟨rfl, HE2.out⟩
  go_wp2_with fail
  refine (fix_any v L _ (rdNd_ext HV.out HE1.out)).mono ?_
  rintro e w2 ⟨L', v', rfl, hr, hF, hl, hE2⟩
  have HR := Lib.hid hr
  have HF := Lib.hid hF
  have HE2 := Lib.hid (ext_trans HE1.out hE2)
  have hl8 : L'.length ≤ 8 := by omega
  clear hr hF hE2 hl
  go_wp2_with fail
  refine (tree_fix 8 (by decide) (by decide) v' L' _ HR.out HF.out hl8).mono ?_
  rintro e w3 ⟨rb, n, t, k, z, A, q, c, rfl, hn, hfit, hlst, hpv, hE3⟩
  obtain ⟨hfb, hch, -⟩ := fit_chk hfit (by decide)
  have hsz : sizeT t ≤ 300 := by have := hfit.2.1; omega
  have HLS := Lib.hid hlst
  have HPV := Lib.hid hpv
  have HE3 := Lib.hid (ext_trans HE2.out hE3)
  clear hfit hlst hpv hE3 hfb hl8
  go_wp2_with fail
  have hE4 := ext_alloc (ext_refl w3) (.cells #[.int .i64 k, .int .i64 z, .slice A q c] 30)
  have hB4 := heap_alloc_new w3 (.cells #[.int .i64 k, .int .i64 z, .slice A q c] 30)
  obtain ⟨w4, hw4⟩ : ∃ w4, w4 = w3.alloc (.cells #[.int .i64 k, .int .i64 z, .slice A q c] 30) := ⟨_, rfl⟩
  obtain ⟨p6, hp6⟩ : ∃ p6, p6 = w3.heap.size := ⟨_, rfl⟩
  rw [← hw4] at hE4 hB4 ⊢
  rw [← hp6] at hB4 ⊢
  have HB4 := Lib.hid hB4
  have HE4 := Lib.hid (ext_trans HE3.out hE4)
  have HL4 := Lib.hid (lst_ext HLS.out hE4)
  have HP4 := Lib.hid (PV_ext HPV.out hE4)
  clear hw4 hp6 hE4 hB4 HLS HPV HE3
  refine (rcheck_any t rb n 0 _ (by omega) hn HL4.out).mono ?_
  rintro e w5 ⟨rfl, hE5⟩
  have h45 := (ext_block hE5 (block_lt HB4.out)).trans HB4.out
  have HP5 := Lib.hid (PV_ext HP4.out hE5)
  have HB5 := Lib.hid h45
  have HE5 := Lib.hid (ext_trans HE4.out hE5)
  clear hE5 h45 HP4 HB4 HE4
  by_cases hz : chk t = 0
  · rw [hz]
    have HZ := Lib.hid hz
    have hna : LA.length ≤ 10 := by rw [← HN.out.1]; omega
    have hnb : LB.length ≤ 10 := by rw [← HN.out.2]; omega
    have b0 := block_cell HB5.out 0
    have b1 := block_cell HB5.out 1
    have b2 := block_cell HB5.out 2
    have bl := block_lt HB5.out
    clear hz hch
    go_wp2_with fail
    have ha5 := rdAR_ext HA.out HE5.out
    refine (forest_any t _ _ LA w5 HP5.out HZ.out ha5 (by omega)).mono ?_
    rintro e w6 ⟨w0, Lc, ve, rfl, hF6, hE6⟩
    have HF6 := Lib.hid hF6
    have HB6 := Lib.hid ((ext_block hE6 (block_lt HB5.out)).trans HB5.out)
    have HP6 := Lib.hid (PV_ext HP5.out hE6)
    have HE6 := Lib.hid (ext_trans HE5.out hE6)
    have HAB := Lib.hid (And.intro (rdAR_ext HA.out HE6.out) (rdAR_ext HB.out HE6.out))
    clear ha5 hF6 hE6 b0 b1 b2 bl
    go_wp2_with fail
    have hCE : ∀ a b, Ext w6 a → Ext a b → Ext w6 b := fun a b h h' => ext_trans h h'
    have ux0 : ∀ p : CW (Ext w6), p.val.cell? ⟨p6, 0, none⟩ = some (.int .i64 k) := fun p => block_cell ((ext_block p.ok (block_lt HB6.out)).trans HB6.out) 0
    have ux1 : ∀ p : CW (Ext w6), p.val.cell? ⟨p6, 1, none⟩ = some (.int .i64 z) := fun p => block_cell ((ext_block p.ok (block_lt HB6.out)).trans HB6.out) 1
    have ux2 : ∀ p : CW (Ext w6), p.val.cell? ⟨p6, 2, none⟩ = some (.slice A q c) := fun p => block_cell ((ext_block p.ok (block_lt HB6.out)).trans HB6.out) 2
    have uxl : ∀ p : CW (Ext w6), p6 < p.val.heap.size := fun p => ext_lt p.ok (block_lt HB6.out)
    refine wp_region_evt (C := Ext w6) hCE (ext_refl w6) [2, 4] [0] [(1, noneF elAR w6.heap.size), (3, rowF elAR w6.heap.size LA), (5, rowF elAR w6.heap.size (LA ++ LB)), (6, FoT t (edsL (LA ++ LB)) w6.heap.size)] [7, 8, 9, 10, 11] [1, 3, 5, 6] rfl (by kernel_rfl) (by kernel_rfl) (fun _ _ d _ _ h => by cases d <;> exact h) ?_
    refine wpPre_step rfl (fun K hK => ?_)
    go_simp
    refine hK _ ?_
    clear hK K
    refine wpPre_step rfl (fun K hK => ?_)
    go_simp
    refine hK _ ?_
    clear hK K
    refine wpPre_nil ?_
    refine wpC_step rfl (fun K hK => ?_)
    (try simp only [Oper.quietAt, Oper.quietUpon])
    go_simp
    refine ⟨_, fun _ => rfl, hK _ ?_⟩
    clear hK K
    refine wpC_nil ?_
    clear ux0 ux1 ux2 uxl hCE
    refine wpCh_step rfl rfl noneF_ext (fun w7 hE7 _ => ?_) (fun v48 => ?_)
    · simp only [runsAt]
      go_simp
      exact ⟨ext_trans hE7 (ext_alloc (ext_refl _) _), w7.heap.size, rfl, ext_size hE7, heap_alloc_new w7 _⟩
    refine wpCh_step rfl rfl rowF_ext (fun w7 hE7 hR7 => ?_) (fun v50 => ?_)
    · refine runs_append (t := 60) (.tmp 48) (.tmp 49) rfl rfl rfl ?_
      obtain ⟨v', w', h1, h2, h3⟩ := append_onto tpAR 60 w6.heap.size _ _ [] LA w7 (noneF_row hR7) (srcOf_acts (rdAR_ext HAB.out.1 hE7)) (by rw [List.length_nil]; omega) (ext_size hE7)
      exact ⟨v', w', h1, ext_of_upd (upd_trans (upd_of_ext hE7) (upd_grown h3) (fun i hi e => absurd hi (by have := (noneF_row hR7).2 _ e; omega))), h2⟩
    refine wpCh_step rfl rfl rowF_ext (fun w7 hE7 hR7 => ?_) (fun v52 => ?_)
    · refine runs_append (t := 60) (.tmp 50) (.tmp 51) rfl rfl rfl ?_
      obtain ⟨v', w', h1, h2, h3⟩ := append_onto tpAR 60 w6.heap.size _ _ LA LB w7 hR7 (srcOf_acts (rdAR_ext HAB.out.2 hE7)) (by omega) (ext_size hE7)
      exact ⟨v', w', h1, ext_of_upd (upd_trans (upd_of_ext hE7) (upd_grown h3) (fun i hi e => absurd hi (by have := hR7.2 _ e; omega))), h2⟩
    refine wpCh_step rfl rfl foT_ext (fun w7 hE7 hR7 => ?_) (fun v53 => ?_)
    · simp only [runsAt]
      go_simp
      refine (forest_any t _ _ (LA ++ LB) w7 (PV_ext HP6.out hE7) HZ.out (rdAR_row hR7.1 (fun x hx => (List.mem_append.1 hx).elim (HOK.out.1 x) (HOK.out.2 x))) (by rw [List.length_append]; omega)).mono ?_
      rintro e w8 ⟨wv, L8, ve8, rfl, hF8, hE8⟩
      exact ⟨_, rfl, ext_trans hE7 hE8, wv, L8, ve8, _, rfl, foR_low hF8 (ext_size hE7)⟩
    refine wpCh_nil (fun w7 hE7 hR7 => ?_)
    obtain ⟨w0', L', ve', N', rfl, hF7⟩ := hR7
    have HF7 := Lib.hid hF7
    have HE7 := Lib.hid (ext_trans HE6.out hE7)
    have HF6' := Lib.hid (foR_ext HF6.out hE7)
    clear hF7 hE7
    repeat (refine wpPre_step rfl (fun K hK => ?_); go_simp; refine hK _ ?_; clear hK K)
    refine wpPre_nil ?_
    go_wp2_with fail
    refine (pairs_foR HF7.out (edsL_nd _) (Nat.le_trans (edsL_len _) (by rw [List.length_append]; omega))).mono ?_
    rintro e w8 ⟨bq, NB, pb, rfl, hQb, hPb, -, hE8⟩
    have HQB := Lib.hid hQb
    have HPB := Lib.hid hPb
    have HF8 := Lib.hid (foR_ext HF6'.out hE8)
    have HE8 := Lib.hid (ext_trans HE7.out hE8)
    clear hQb hPb hE8
    go_wp2_with fail
    refine (pairs_foR HF8.out (edsL_nd _) (Nat.le_trans (edsL_len _) (by omega))).mono ?_
    rintro e w9 ⟨bp, NA, pa, rfl, hQa, hPa, hsa, hE9⟩
    have hne : bq ≠ bp := fun e => by have := mapG_lt HQB.out; omega
    have HNE := Lib.hid hne
    have HQA := Lib.hid hQa
    have HPA := Lib.hid hPa
    have HQB9 := Lib.hid (mapG_ext HQB.out hE9)
    have HE9 := Lib.hid (ext_trans HE8.out hE9)
    clear hQa hPa hE9 hne hsa
    go_wp2_with (first
      | (at_range; refine wpList_range_G _ rfl _ _ rfl Try.underlying65 rfl HQA.out ?_; intro wr r hr0; have HLR := Lib.hid hr0; clear hr0; intro hrng hEr hs2)
      | go_in)
    have HRN := Lib.hid hrng
    have HER := Lib.hid hEr
    clear hrng hEr hs2
    go_simp
    go_loopw [15] (fun _ wn => ∃ (done : List Two), RngG kQ eI bp r NA pa done wn ∧ Ext w9 wn) (fun _ wn => wn.rangeLeft bp r)
    case atStart => exact ⟨[], HRN.out, HER.out⟩
    case round =>
      rename World => wn
      obtain ⟨done, hR, hE⟩ := hrel
      have HR := Lib.hid hR
      have HE := Lib.hid hE
      clear hR hE
      go_wp2_with (first
        | (at_next; refine wpList_next_G wn rfl _ rfl rfl HR.out ?_ ?_)
        | go_in)
      · intro hall
        have HF := Lib.hid (ext_trans HE9.out HE.out)
        clear hall
        go_wp2
        refine bodyPost_ret (results_tmp rfl _ _ _) rfl ?_
        exact ⟨rfl, HF.out⟩
      · intro x lasts w3' hfx hnx hR3 hlt3 hg3 hs3 hent
        rw [show kQ.val x = .agg #[.int .i64 x.a, .int .i64 x.b] from rfl, show eI.val lasts = .int .i64 lasts from rfl] at hent ⊢
        obtain ⟨xa, xb⟩ := x
        obtain ⟨u, hu, hlu⟩ := prsOf_le HPA.out HPB.out (leG_more LA LB) hfx
        have hE3 : Ext w9 w3' := ext_of_upd (upd_trans (upd_of_ext HE.out) (upd_grown hg3) (fun j hj e => absurd hj (by have h5 : r = j := Option.some.inj e; have := HLR.out; omega)))
        have hok : ok2 ⟨xa, xb⟩ := (mapG_out HQA.out hfx).1
        have hlk : (Instr.lookup 65 (.map (some bq)) (.agg #[.int .i64 xa, .int .i64 xb]) true).run Try.prog (w3'.alloc (.cells #[.int .i64 xa, .int .i64 xb] 68)) = .ok (.tuple #[.int .i64 u, .bool true]) (w3'.alloc (.cells #[.int .i64 xa, .int .i64 xb] 68)) := by
          have h3 := look2_G Try.underlying65 (mapG_ext HQB9.out (ext_trans hE3 (ext_alloc (ext_refl _) (.cells #[.int .i64 xa, .int .i64 xb] 68)))) (x := ⟨xa, xb⟩) hok
          rw [hu] at h3
          exact h3
        have HR3 := Lib.hid (rngG_ext hR3 (ext_alloc (ext_refl _) (.cells #[.int .i64 xa, .int .i64 xb] 68)))
        have HL3 := Lib.hid (show (w3'.alloc (.cells #[.int .i64 xa, .int .i64 xb] 68)).rangeLeft bp r < wn.rangeLeft bp r by rw [left_ext hR3 (ext_alloc (ext_refl _) _)]; exact hlt3)
        have HE3 := Lib.hid (ext_trans hE3 (ext_alloc (ext_refl _) (.cells #[.int .i64 xa, .int .i64 xb] 68)))
        have hlt : ¬ u < lasts := by omega
        clear hfx hnx hR3 hlt3 hg3 hs3 hu hE3 hok
        go_wp2
        go_roundw
        case rel => exact ⟨_, HR3.out, HE3.out⟩
        case measure => exact HL3.out
  · have hzb : decide (chk t = 0) = false := by simpa using hz
    go_wp2
    refine bodyPost_ret (results_tmp rfl _ _ _) rfl ?_
    exact ⟨rfl, HE5.out⟩
end Go.Proofs.Ytiabmdboacpmcaa
/- Has, walked; bounds of edges; the pairs of a path are one. -/
namespace Go.Proofs.Ytiabmdboacpmcaa
open Go Go.RowKit Go.Sort Go.WideMaps Go.Maps
set_option maxHeartbeats 4000000

theorem addL_mem : ∀ {E : List Ed} {k : Key} {u : Int} {e : Ed}, e ∈ addL E k u → e ∈ E ∨ (e.1 = k ∧ e.2 = u)
  | [], k, u, e, h => by
    simp only [addL, List.mem_singleton] at h
    subst h
    exact .inr ⟨rfl, rfl⟩
  | x :: L, k, u, e, h => by
    rw [addL] at h
    split at h
    · rename_i hx
      rcases List.mem_cons.1 h with h | h
      · subst h
        simp only
        split
        · exact .inr ⟨hx, rfl⟩
        · exact .inl (List.mem_cons_self ..)
      · exact .inl (List.mem_cons_of_mem _ h)
    · rcases List.mem_cons.1 h with h | h
      · exact .inl (by rw [h]; exact List.mem_cons_self ..)
      · rcases addL_mem h with h1 | h1
        · exact .inl (List.mem_cons_of_mem _ h1)
        · exact .inr h1
/-- an edge of small numbers -/
def smallE (e : Ed) : Prop := 0 ≤ e.1.a ∧ e.1.a < 5 ∧ 0 ≤ e.1.b ∧ e.1.b < 5 ∧ 0 ≤ e.1.c ∧ e.1.c < 5 ∧ -1000 < e.2 ∧ e.2 < 1000
theorem foldl_small : ∀ (L : List AR) (E : List Ed), (∀ e ∈ E, smallE e) → ∀ e ∈ L.foldl (fun E x => addL E (absK x.key) (untZ x.till)) E, smallE e
  | [], _, h => h
  | x :: L, E, h => foldl_small L _ (fun e he => by
    rcases addL_mem he with h1 | ⟨h1, h2⟩
    · exact h e h1
    · have ha := absZ_le x.key.a
      have hb := absZ_le x.key.b
      have hc := absZ_le x.key.c
      have hu := untZ_le x.till
      unfold smallE
      rw [h1, h2]
      unfold absK
      simp only
      omega)
theorem edsL_small (L : List AR) : ∀ e ∈ edsL L, smallE e := foldl_small L [] (fun e he => by cases he)
theorem smallE_ok {e : Ed} (h : smallE e) : ok3 e.1 ∧ okI e.2 := by
  obtain ⟨h1, h2, h3, h4, h5, h6, h7, h8⟩ := h
  exact ⟨⟨okI_iff.2 (by omega), okI_iff.2 (by omega), okI_iff.2 (by omega)⟩, okI_iff.2 (by omega)⟩
theorem prs_one {L : List Sy → Prop} {E : Gr3} {p p' : Prs} (h : PrsOf L E p) (h' : PrsOf L E p') (q : Two) : p q = p' q := by
  obtain ⟨x, y⟩ := q
  cases hp : p ⟨x, y⟩ with
  | some v => exact ((h'.is x y v).2 ((h.is x y v).1 hp)).symm
  | none =>
    cases hp' : p' ⟨x, y⟩ with
    | none => rfl
    | some v =>
      have := (h.is x y v).2 ((h'.is x y v).1 hp')
      rw [hp] at this
      cases this
set_option maxRecDepth 100000 in
theorem has_foR {t : Tr} {E : List Ed} {H N : Nat} {w0 : World} {L : Loc} {ve : Value} {w : World} {p : Prs} (x y : Int) (h : FoR t E H N w0 L ve w) (hnd : KeysNd E) (hl : E.length ≤ 100) (hx : okI x) (hy : okI y) (hp : PrsOf (Words t) (grOf E) p) :
    Calls Try.prog 40 #[ptr L.pf, .int .i64 x, .int .i64 y] w fun e w' => e = .returned (.bool (p ⟨x, y⟩).isSome) ∧ Ext w w' := by
  have HP := Lib.hid (pairs_foR h hnd hl)
  have HX := Lib.hid (show ok2 ⟨x, y⟩ from ⟨hx, hy⟩)
  have HPP := Lib.hid hp
  clear h hnd hl hx hy hp
  go_enter Try.func40, Try.ntmps40
  go_wp2_with fail
  refine HP.out.mono ?_
  rintro e w1 ⟨qb, Nq, p', rfl, hQ, hP, -, hE⟩
  have hpe := prs_one hP HPP.out ⟨x, y⟩
  have HE := Lib.hid hE
  cases hpc : p ⟨x, y⟩ with
  | none =>
    have HB := Lib.hid (show (p ⟨x, y⟩).isSome = false by rw [hpc]; rfl)
    have hlk : (Instr.lookup 65 (.map (some qb)) (.agg #[.int .i64 x, .int .i64 y]) true).run Try.prog w1 = .ok (.tuple #[.int .i64 0, .bool false]) w1 := by
      have h3 := look2_G Try.underlying65 hQ (x := ⟨x, y⟩) HX.out
      rw [hpe, hpc] at h3
      exact h3
    clear hQ hP hpe hE hpc
    go_wp2
    refine bodyPost_ret (results_tmp rfl _ _ _) rfl ?_
    exact ⟨by rw [HB.out]; rfl, HE.out⟩
  | some v =>
    have HB := Lib.hid (show (p ⟨x, y⟩).isSome = true by rw [hpc]; rfl)
    have hlk : (Instr.lookup 65 (.map (some qb)) (.agg #[.int .i64 x, .int .i64 y]) true).run Try.prog w1 = .ok (.tuple #[.int .i64 v, .bool true]) w1 := by
      have h3 := look2_G Try.underlying65 hQ (x := ⟨x, y⟩) HX.out
      rw [hpe, hpc] at h3
      exact h3
    clear hQ hP hpe hE hpc
    go_wp2
    refine bodyPost_ret (results_tmp rfl _ _ _) rfl ?_
    exact ⟨by rw [HB.out]; rfl, HE.out⟩
end Go.Proofs.Ytiabmdboacpmcaa
/- Nodes of edges, rising. -/
namespace Go.Proofs.Ytiabmdboacpmcaa
open Go Go.RowKit Go.Sort Go.WideMaps Go.Maps
set_option maxHeartbeats 4000000

def elJ : El Int := ⟨fun n => [.int .i64 n], 1, 3, by decide, fun _ => rfl, fun x u hu => by rw [List.mem_singleton.1 hu]; rfl⟩
noncomputable def tpJ : Tp Try.prog 52 elJ := ⟨(Try.prog.info? 3).get (by kernel_rfl), .int .i64 0, 8, Try.underlying52, by kernel_rfl, by kernel_rfl, by kernel_rfl, by kernel_rfl, rfl, by decide⟩
theorem rowJ_cell {w : World} {g n c : Nat} {L : List Int} (h : rowE elJ w (.slice (some ⟨g, 0, none⟩) n c) L) {i : Nat} {x : Int} (hx : L[i]? = some x) : w.cell? ⟨g, i, none⟩ = some (.int .i64 x) := by
  have := rowE_cell h hx (j := 0) (u := .int .i64 x) rfl
  simpa [elJ] using this
theorem flatJ (L : List Int) : flatE elJ L = L.map (Value.int .i64) := by
  unfold flatE elJ
  induction L with
  | nil => rfl
  | cons x L ih => simp [List.flatMap_cons, ih]
/-- the place of a number in a rising row -/
def ltN : List Int → Int → Nat
  | [], _ => 0
  | x :: r, n => if x < n then ltN r n + 1 else 0
theorem ltN_le : ∀ (o : List Int) (n : Int), ltN o n ≤ o.length
  | [], _ => Nat.le_refl _
  | x :: r, n => by
    have := ltN_le r n
    rw [ltN, List.length_cons]
    split <;> omega
theorem ltN_lt : ∀ {o : List Int} {n : Int} {j : Nat}, j < ltN o n → ∃ x, o[j]? = some x ∧ x < n
  | [], n, j, h => by simp [ltN] at h
  | x :: r, n, j, h => by
    rw [ltN] at h
    split at h
    · rename_i hx
      cases j with
      | zero => exact ⟨x, rfl, hx⟩
      | succ j => exact ltN_lt (o := r) (by omega)
    · omega
theorem ltN_at : ∀ {o : List Int} {n x : Int}, o[ltN o n]? = some x → ¬ x < n
  | [], n, x, h => by simp at h
  | y :: r, n, x, h => by
    rw [ltN] at h
    split at h
    · exact ltN_at (o := r) (by simpa using h)
    · rename_i hy
      simp at h
      rw [← h]; exact hy
def insZ (o : List Int) (n : Int) : List Int := if o[ltN o n]? = some n then o else o.take (ltN o n) ++ [n] ++ o.drop (ltN o n)
theorem mem_insZ {o : List Int} {n x : Int} : x ∈ insZ o n ↔ x = n ∨ x ∈ o := by
  unfold insZ
  split
  · rename_i h
    constructor
    · exact .inr
    · rintro (rfl | h1)
      · exact List.mem_of_getElem? h
      · exact h1
  · constructor
    · intro h1
      rcases List.mem_append.1 h1 with h1 | h1
      · rcases List.mem_append.1 h1 with h1 | h1
        · exact .inr (List.mem_of_mem_take h1)
        · exact .inl (List.mem_singleton.1 h1)
      · exact .inr (List.mem_of_mem_drop h1)
    · rintro (rfl | h1)
      · simp
      · rw [← List.take_append_drop (ltN o n) o] at h1
        rcases List.mem_append.1 h1 with h1 | h1
        · exact List.mem_append_left _ (List.mem_append_left _ h1)
        · exact List.mem_append_right _ h1
theorem insZ_len (o : List Int) (n : Int) : (insZ o n).length ≤ o.length + 1 := by
  unfold insZ
  split
  · omega
  · have := ltN_le o n
    rw [List.length_append, List.length_append, List.length_take, List.length_drop]
    simp only [List.length_cons, List.length_nil]
    omega
theorem insZ_up {o : List Int} {n : Int} (h : o.Pairwise (· < ·)) : (insZ o n).Pairwise (· < ·) := by
  unfold insZ
  split
  · exact h
  · rename_i hne
    have hT : ∀ x ∈ o.take (ltN o n), x < n := fun x hx => by
      obtain ⟨j, hj⟩ := List.mem_iff_getElem?.1 hx
      rw [List.getElem?_take] at hj
      split at hj
      · rename_i hlt
        obtain ⟨y, hy, hyn⟩ := ltN_lt hlt
        rw [hj] at hy
        cases hy
        exact hyn
      · cases hj
    have hD : ∀ x ∈ o.drop (ltN o n), n < x := fun x hx => by
      obtain ⟨j, hj⟩ := List.mem_iff_getElem?.1 hx
      rw [List.getElem?_drop] at hj
      have hl : ltN o n < o.length := by
        have := (List.getElem?_eq_some_iff.1 hj).1
        omega
      obtain ⟨y, hy⟩ : ∃ y, o[ltN o n]? = some y := ⟨_, List.getElem?_eq_getElem hl⟩
      have h1 := ltN_at hy
      have h2 : y ≠ n := fun e => hne (by rw [hy, e])
      rcases Nat.eq_zero_or_pos j with rfl | hj0
      · rw [Nat.add_zero, hy] at hj
        cases hj
        omega
      · have h3 := List.pairwise_iff_getElem.1 h (ltN o n) (ltN o n + j) hl (List.getElem?_eq_some_iff.1 hj).1 (by omega)
        rw [(List.getElem?_eq_some_iff.1 hj).2, (List.getElem?_eq_some_iff.1 hy).2] at h3
        omega
    have hp := h
    rw [← List.take_append_drop (ltN o n) o] at hp
    obtain ⟨p1, p2, p3⟩ := List.pairwise_append.1 hp
    refine List.pairwise_append.2 ⟨List.pairwise_append.2 ⟨p1, List.pairwise_singleton .., fun a ha b hb => ?_⟩, p2, fun a ha b hb => ?_⟩
    · rw [List.mem_singleton.1 hb]; exact hT a ha
    · rcases List.mem_append.1 ha with ha | ha
      · exact p3 a ha b hb
      · rw [List.mem_singleton.1 ha]; exact hD b hb
def nodesL (E : List Ed) : List Int := E.foldl (fun o e => insZ (insZ o e.1.a) e.1.c) []
theorem nodesL_take {E : List Ed} {j : Nat} {e : Ed} (h : E[j]? = some e) : nodesL (E.take (j + 1)) = insZ (insZ (nodesL (E.take j)) e.1.a) e.1.c := by
  unfold nodesL
  rw [List.take_add_one, h, Option.toList_some, List.foldl_append]
  rfl
theorem mem_foldN {x : Int} : ∀ (E : List Ed) (o : List Int), x ∈ E.foldl (fun o e => insZ (insZ o e.1.a) e.1.c) o ↔ x ∈ o ∨ ∃ e ∈ E, e.1.a = x ∨ e.1.c = x
  | [], o => by simp
  | e :: E, o => by
    rw [List.foldl_cons, mem_foldN E, mem_insZ, mem_insZ]
    constructor
    · rintro ((h | h | h) | ⟨y, h1, h2⟩)
      · exact .inr ⟨e, List.mem_cons_self .., .inr h.symm⟩
      · exact .inr ⟨e, List.mem_cons_self .., .inl h.symm⟩
      · exact .inl h
      · exact .inr ⟨y, List.mem_cons_of_mem _ h1, h2⟩
    · rintro (h | ⟨y, h1, h2⟩)
      · exact .inl (.inr (.inr h))
      · rcases List.mem_cons.1 h1 with rfl | h1
        · rcases h2 with h2 | h2
          · exact .inl (.inr (.inl h2.symm))
          · exact .inl (.inl h2.symm)
        · exact .inr ⟨y, h1, h2⟩
theorem mem_nodesL {E : List Ed} {x : Int} (hnd : KeysNd E) : x ∈ nodesL E ↔ isNode (grOf E) x := by
  unfold nodesL
  rw [mem_foldN]
  constructor
  · rintro (h | ⟨e, h1, h2⟩)
    · cases h
    · exact ⟨e.1, e.2, (grOf_some hnd).2 h1, h2⟩
  · rintro ⟨k, u, h1, h2⟩
    exact .inr ⟨(k, u), (grOf_some hnd).1 h1, h2⟩
theorem foldN_up : ∀ (E : List Ed) (o : List Int), o.Pairwise (· < ·) → (E.foldl (fun o e => insZ (insZ o e.1.a) e.1.c) o).Pairwise (· < ·) ∧ (E.foldl (fun o e => insZ (insZ o e.1.a) e.1.c) o).length ≤ o.length + 2 * E.length
  | [], o, h => ⟨h, by simp⟩
  | e :: E, o, h => by
    obtain ⟨h1, h2⟩ := foldN_up E _ (insZ_up (n := e.1.c) (insZ_up (n := e.1.a) h))
    refine ⟨h1, ?_⟩
    have h3 := insZ_len (insZ o e.1.a) e.1.c
    have h4 := insZ_len o e.1.a
    rw [List.foldl_cons, List.length_cons]
    omega
theorem nodesL_up (E : List Ed) : (nodesL E).Pairwise (· < ·) := (foldN_up E [] List.Pairwise.nil).1
theorem nodesL_len (E : List Ed) : (nodesL E).length ≤ 2 * E.length := by have := (foldN_up E [] List.Pairwise.nil).2; simpa [nodesL] using this
/-- the rest of a row -/
theorem srcZ_drop {w : World} {g n c : Nat} {L : List Int} (h : rowE elJ w (.slice (some ⟨g, 0, none⟩) n c) L) (q : Nat) (_hq : q ≤ L.length) (m c' : Nat) (hm : m = L.length - q) : SrcOf elJ w (.slice (some ⟨g, q, none⟩) m c') (L.drop q) := by
  refine ⟨_, c', by rw [hm, List.length_drop], fun _ => ⟨_, rfl, fun j u hu => ?_⟩⟩
  rw [flatJ, List.getElem?_map, List.getElem?_drop] at hu
  obtain ⟨x, hx, rfl⟩ := Option.map_eq_some_iff.1 hu
  rw [addr_add0]
  exact rowJ_cell h hx
theorem srcZ_take {w : World} {g n c : Nat} {L : List Int} (h : rowE elJ w (.slice (some ⟨g, 0, none⟩) n c) L) (q : Nat) (hq : q ≤ L.length) (c' : Nat) : SrcOf elJ w (.slice (some ⟨g, 0, none⟩) q c') (L.take q) := by
  refine ⟨_, c', by rw [List.length_take, Nat.min_eq_left hq], fun _ => ⟨_, rfl, fun j u hu => ?_⟩⟩
  rw [flatJ, List.getElem?_map] at hu
  obtain ⟨x, hx, rfl⟩ := Option.map_eq_some_iff.1 hu
  rw [addr_add0, Nat.zero_add]
  rw [List.getElem?_take] at hx
  split at hx
  · exact rowJ_cell h hx
  · cases hx
end Go.Proofs.Ytiabmdboacpmcaa
/- Nodes, walked. -/
namespace Go.Proofs.Ytiabmdboacpmcaa
open Go Go.RowKit Go.Sort Go.WideMaps Go.Maps
set_option maxHeartbeats 4000000

/-- how far the row is behind m of an edge's two ends -/
def stg (o : List Int) (k : Key) (m : Nat) : List Int := if m = 0 then o else if m = 1 then insZ o k.a else insZ (insZ o k.a) k.c
theorem stg_len (o : List Int) (k : Key) (m : Nat) (h : o.length ≤ 400) : (stg o k m).length ≤ 600 := by
  have h1 := insZ_len o k.a
  have h2 := insZ_len (insZ o k.a) k.c
  unfold stg
  split
  · omega
  · split <;> omega
theorem stg_1 (o : List Int) (k : Key) : stg o k 1 = insZ (stg o k 0) k.a := rfl
theorem stg_2 (o : List Int) (k : Key) : stg o k 2 = insZ (stg o k 1) k.c := rfl
set_option maxRecDepth 100000 in
theorem nodes_any (v : Value) (E : List Ed) (w : World) (h : rowE elDr w v E) (hl : E.length ≤ 100) : Calls Try.prog 39 #[v] w fun e w' => ∃ v', e = .returned v' ∧ rowF elJ w.heap.size (nodesL E) v' w' ∧ Ext w w' := by
  have HR := Lib.hid h
  obtain ⟨A0, c0, rfl⟩ := rowE_form h
  obtain ⟨n, hn⟩ : ∃ n, n = E.length := ⟨_, rfl⟩
  rw [← hn] at HR hl ⊢
  have HN := Lib.hid hn
  clear h hn
  go_enter Try.func39, Try.ntmps39
  go_wp2
  go_loopw [3, 11] (fun y x wn => ∃ j : Nat, j ≤ n ∧ x = .int .i64 (j : Int) ∧ ∃ vo, y = vo ∧ rowF elJ w.heap.size (nodesL (E.take j)) vo wn ∧ Ext w wn) (fun _ x _ => n - (intOf x).toNat)
  case atStart => exact ⟨0, by omega, rfl, _, rfl, rowF_nil _ _, ext_refl _⟩
  case round =>
    rename World => wi
    obtain ⟨j, hj, rfl, vo, rfl, hR, hE⟩ := hrel
    have HRV := Lib.hid hR
    have HE := Lib.hid hE
    clear hR hE
    by_cases hlt : j < n
    · have hji : (j : Int) < (n : Int) := by omega
      have hj0 : (0 : Int) ≤ (j : Int) := by omega
      obtain ⟨x, hx⟩ : ∃ x, E[j]? = some x := ⟨_, List.getElem?_eq_getElem (by rw [← HN.out]; exact hlt)⟩
      obtain ⟨g, rfl, lg⟩ := rowE_some HR.out (fun e => by rw [e] at hx; simp at hx)
      have HX := Lib.hid hx
      clear hx
      go_wp2
      go_loopw [3, 5] (fun y x' wn => ∃ m : Nat, m ≤ 2 ∧ x' = .int .i64 ((2 * m : Nat) : Int) ∧ ∃ vo, y = vo ∧ rowF elJ w.heap.size (stg (nodesL (E.take j)) x.1 m) vo wn ∧ Ext w wn) (fun _ x' _ => 4 - (intOf x').toNat)
      case atStart => exact ⟨0, by omega, rfl, _, rfl, HRV.out, HE.out⟩
      case round =>
        rename World => wr
        obtain ⟨m, hm, rfl, vo', rfl, hro, hE2⟩ := hrel
        have hrr := rowE_ext HR.out hE2
        have lgr := ext_lt hE2 lg
        have e0 : wr.cell? ⟨g, j * 4, none⟩ = some (.int .i64 x.1.a) := rowE_cell hrr HX.out (j := 0) (u := .int .i64 x.1.a) rfl
        have e2 : wr.cell? ⟨g, j * 4 + 2, none⟩ = some (.int .i64 x.1.c) := rowE_cell hrr HX.out (j := 2) (u := .int .i64 x.1.c) rfl
        clear hrr
        rcases (by omega : m = 0 ∨ m = 1 ∨ m = 2) with rfl | rfl | rfl
        · obtain ⟨o, ho⟩ : ∃ o, o = stg (nodesL (E.take j)) x.1 0 := ⟨_, rfl⟩
          rw [← ho] at hro
          have HO := Lib.hid ho
          obtain ⟨A1, c1, hvo⟩ := rowE_form hro.1
          subst hvo
          have hol : o.length ≤ 600 := by rw [ho]; exact stg_len _ _ _ (Nat.le_trans (nodesL_len _) (by rw [List.length_take]; omega))
          obtain ⟨no, hno⟩ : ∃ n, n = o.length := ⟨_, rfl⟩
          rw [← hno] at hro hol ⊢
          obtain ⟨z, hz⟩ : ∃ z, z = x.1.a := ⟨_, rfl⟩
          rw [← hz] at e0
          have HZ := Lib.hid hz
          have HNO := Lib.hid hno
          have HRO := Lib.hid hro
          have HE2 := Lib.hid hE2
          clear hro hE2 ho hno hz
          go_wp2
          go_loopw [7] (fun y wn => ∃ q : Nat, q ≤ ltN o z ∧ y = .int .i64 (q : Int) ∧ wn = wr) (fun y _ => no - (intOf y).toNat)
          case atStart => exact ⟨0, by omega, rfl, rfl⟩
          case round =>
            obtain ⟨q, hq, rfl, rfl⟩ := hrel
            have hqn : q ≤ no := by rw [HNO.out]; exact Nat.le_trans hq (ltN_le _ _)
            have HQ := Lib.hid hq
            clear hq
            by_cases hlt : q < ltN o z
            · obtain ⟨y, hy, hyz⟩ := ltN_lt hlt
              have hqo : q < no := by rw [HNO.out]; exact (List.getElem?_eq_some_iff.1 hy).1
              obtain ⟨g1, rfl, lg1⟩ := rowE_some HRO.out.1 (fun e => by rw [e] at hy; simp at hy)
              have y0 := rowJ_cell HRO.out.1 hy
              have hqi : (q : Int) < (no : Int) := by omega
              have HLT := Lib.hid hlt
              clear hlt hy
              go_wp2
              go_roundw
              case rel => exact ⟨q + 1, HLT.out, by go_num, by first | rfl | trivial⟩
              case measure => simp [intOf]; omega
            · have HLT := Lib.hid (show q = ltN o z by have := HQ.out; omega)
              clear hlt
              by_cases heq : q < no ∧ o[q]? = some z
              · obtain ⟨hqo, hoz⟩ := heq
                obtain ⟨g1, rfl, lg1⟩ := rowE_some HRO.out.1 (fun e => by rw [e] at hoz; simp at hoz)
                have y0 := rowJ_cell HRO.out.1 hoz
                have hqi : (q : Int) < (no : Int) := by omega
                have HIN := Lib.hid (show insZ o z = o from if_pos (by rw [← HLT.out]; exact hoz))
                clear hoz
                go_wp2
                go_roundw
                case rel => exact ⟨1, by omega, by go_num, _, rfl, by rw [stg_1, ← HO.out, ← HZ.out, HIN.out]; exact HRO.out, HE2.out⟩
                case measure => simp [intOf]
              · have HIN := Lib.hid (show insZ o z = o.take q ++ [z] ++ o.drop q by
                  unfold insZ
                  rw [← HLT.out, if_neg (fun e => heq ⟨by rw [HNO.out]; exact (List.getElem?_eq_some_iff.1 e).1, e⟩)])
                by_cases hqo : q < no
                · obtain ⟨y, hy⟩ : ∃ y, o[q]? = some y := ⟨_, List.getElem?_eq_getElem (by rw [← HNO.out]; exact hqo)⟩
                  obtain ⟨g1, rfl, lg1⟩ := rowE_some HRO.out.1 (fun e => by rw [e] at hy; simp at hy)
                  have y0 := rowJ_cell HRO.out.1 hy
                  have hyz : ¬ y < z := ltN_at (by rw [← HLT.out]; exact hy)
                  have hye : decide (y = z) = false := by simpa using fun e => heq ⟨hqo, by rw [hy, e]⟩
                  have hyn : ¬ y = z := by simpa using hye
                  have hqi : (q : Int) < (no : Int) := by omega
                  have hqc : no ≤ c1 := (rowE_cap HRO.out.1).2
                  clear heq hy
                  go_wp2_with (at_builtin; refine halt_here ?_)
                  refine go_on ?_
                  obtain ⟨W1, hW1⟩ : ∃ W1, W1 = wr.alloc (.cells #[] 3) := ⟨_, rfl⟩
                  have hE1 : Ext wr W1 := by rw [hW1]; exact ext_alloc (ext_refl _) _
                  have hno1 : noneF elJ w.heap.size (.slice (some ⟨wr.heap.size, 0, none⟩) 0 0) W1 := ⟨wr.heap.size, rfl, ext_size HE2.out, by rw [hW1]; exact heap_alloc_new _ _⟩
                  rw [← hW1]
                  refine wpList_append rfl (.tmp 51) (.tmp 54) rfl (.slice (some ⟨wr.heap.size, 0, none⟩) 0 0) (.slice (some ⟨g1, q, none⟩) (no - q) (c1 - q)) rfl rfl (fun v' w' => Ext W1 w' ∧ rowF elJ w.heap.size (o.drop q) v' w') (append_copy tpJ _ w.heap.size _ _ (o.drop q) W1 hno1 (srcZ_drop (rowE_ext HRO.out.1 hE1) q (by rw [← HNO.out]; exact hqn) _ _ (by rw [HNO.out])) (by have := HNO.out; rw [List.length_drop]; omega)) ?_
                  rintro v2 w2 ⟨hE2', hr2⟩
                  have HR2 := Lib.hid hr2
                  have HE2' := Lib.hid (ext_trans hE1 hE2')
                  clear hW1 hE1 hno1 hE2' hr2
                  go_simp
                  go_wp2_with (at_builtin; refine halt_here ?_)
                  refine go_on ?_
                  obtain ⟨W3, hW3⟩ : ∃ W3, W3 = w2.alloc (.cells #[.int .i64 z] 3) := ⟨_, rfl⟩
                  have hE3 : Ext w2 W3 := by rw [hW3]; exact ext_alloc (ext_refl _) _
                  have hon : oneF elJ w.heap.size z (.slice (some ⟨w2.heap.size, 0, none⟩) 1 1) W3 := ⟨w2.heap.size, rfl, Nat.le_trans (ext_size HE2.out) (ext_size HE2'.out), by rw [hW3]; exact heap_alloc_new _ _⟩
                  have HE3 := Lib.hid (ext_trans HE2'.out hE3)
                  have HR3 := Lib.hid (rowF_ext _ _ _ hE3 HR2.out)
                  rw [← hW3]
                  refine wpList_append rfl (.tmp 59) (.tmp 61) rfl (.slice (some ⟨g1, 0, none⟩) q q) (.slice (some ⟨w2.heap.size, 0, none⟩) 1 1) rfl rfl (fun v' w' => Ext W3 w' ∧ rowF elJ w.heap.size ((o.take q) ++ [z]) v' w') (append_full tpJ _ (some ⟨g1, 0, none⟩) (o.take q) [z] W3 w.heap.size _ _ (by rw [show (o.take q).length = q from by rw [List.length_take, Nat.min_eq_left (by rw [← HNO.out]; exact hqn)]]) (srcZ_take (rowE_ext HRO.out.1 HE3.out) q (by rw [← HNO.out]; exact hqn) _) (srcOf_one hon) (by simp) (by have := HNO.out; have := List.length_take_le q o; simp only [List.length_cons, List.length_nil]; omega) (Nat.le_trans (ext_size HE2.out) (ext_size HE3.out))) ?_
                  rintro v4 w4 ⟨hE4, hr4⟩
                  have HR4 := Lib.hid hr4
                  have HR24 := Lib.hid (rowF_ext _ _ _ hE4 HR3.out)
                  have HE4 := Lib.hid (ext_trans HE3.out hE4)
                  clear hW3 hE3 hon hE4 hr4
                  go_simp
                  go_wp2_with (at_builtin; refine halt_here ?_)
                  refine go_on ?_
                  refine wpList_append rfl (.tmp 62) (.tmp 63) rfl v4 v2 rfl rfl (fun v' w' => rowF elJ w.heap.size (((o.take q) ++ [z]) ++ (o.drop q)) v' w' ∧ w4.grownBy w' v4.ownBlock) (append_onto tpJ _ w.heap.size _ _ ((o.take q) ++ [z]) (o.drop q) w4 HR4.out (srcOf_row HR24.out.1) (by have := HNO.out; have := List.length_take_le q o; rw [List.length_append, List.length_drop]; simp only [List.length_cons, List.length_nil]; omega) (Nat.le_trans (ext_size HE2.out) (ext_size HE4.out))) ?_
                  rintro v5 w5 ⟨hr5, hg5⟩
                  have HR5 := Lib.hid hr5
                  have HE5 := Lib.hid (show Ext w w5 from ext_of_upd (upd_trans (upd_of_ext (ext_trans HE2.out HE4.out)) (upd_grown hg5) (fun i hi e => absurd hi (by have := HR4.out.2 _ e; omega))))
                  clear hr5 hg5
                  go_simp
                  go_wp2
                  go_roundw
                  case rel => exact ⟨1, by omega, by go_num, _, rfl, by rw [stg_1, ← HO.out, ← HZ.out, HIN.out]; exact HR5.out, HE5.out⟩
                  case measure => simp [intOf]
                · have hqe : q = no := by omega
                  rcases rowE_cases HRO.out.1 with ⟨hv0, ho0⟩ | ⟨g1, cap, cur, hv0, hg1, _⟩
                  · simp only [Value.slice.injEq] at hv0
                    obtain ⟨rfl, hno0, rfl⟩ := hv0
                    subst ho0
                    have hq0 : q = 0 := by omega
                    rw [hq0] at HIN HLT ⊢
                    rw [hno0] at HRO ⊢
                    have HIN := Lib.hid (show insZ [] z = ([] ++ [z]) ++ [] from by simpa using HIN.out)
                    clear heq
                    go_wp2_with (at_builtin; refine halt_here ?_)
                    refine go_on ?_
                    obtain ⟨W1, hW1⟩ : ∃ W1, W1 = wr.alloc (.cells #[] 3) := ⟨_, rfl⟩
                    have hE1 : Ext wr W1 := by rw [hW1]; exact ext_alloc (ext_refl _) _
                    have hno1 : noneF elJ w.heap.size (.slice (some ⟨wr.heap.size, 0, none⟩) 0 0) W1 := ⟨wr.heap.size, rfl, ext_size HE2.out, by rw [hW1]; exact heap_alloc_new _ _⟩
                    rw [← hW1]
                    refine wpList_append rfl (.tmp 51) (.tmp 54) rfl (.slice (some ⟨wr.heap.size, 0, none⟩) 0 0) (.slice none 0 0) rfl rfl (fun v' w' => Ext W1 w' ∧ rowF elJ w.heap.size [] v' w') (append_copy tpJ _ w.heap.size _ _ [] W1 hno1 (srcOf_nil _ _ _) (by simp)) ?_
                    rintro v2 w2 ⟨hE2', hr2⟩
                    have HR2 := Lib.hid hr2
                    have HE2' := Lib.hid (ext_trans hE1 hE2')
                    clear hW1 hE1 hno1 hE2' hr2
                    go_simp
                    go_wp2_with (at_builtin; refine halt_here ?_)
                    refine go_on ?_
                    obtain ⟨W3, hW3⟩ : ∃ W3, W3 = w2.alloc (.cells #[.int .i64 z] 3) := ⟨_, rfl⟩
                    have hE3 : Ext w2 W3 := by rw [hW3]; exact ext_alloc (ext_refl _) _
                    have hon : oneF elJ w.heap.size z (.slice (some ⟨w2.heap.size, 0, none⟩) 1 1) W3 := ⟨w2.heap.size, rfl, Nat.le_trans (ext_size HE2.out) (ext_size HE2'.out), by rw [hW3]; exact heap_alloc_new _ _⟩
                    have HE3 := Lib.hid (ext_trans HE2'.out hE3)
                    have HR3 := Lib.hid (rowF_ext _ _ _ hE3 HR2.out)
                    rw [← hW3]
                    refine wpList_append rfl (.tmp 59) (.tmp 61) rfl (.slice none 0 0) (.slice (some ⟨w2.heap.size, 0, none⟩) 1 1) rfl rfl (fun v' w' => Ext W3 w' ∧ rowF elJ w.heap.size ([] ++ [z]) v' w') (append_full tpJ _ none [] [z] W3 w.heap.size _ _ (by rw [show [].length = 0 from rfl]) (srcOf_nil _ _ _) (srcOf_one hon) (by simp) (by simp) (Nat.le_trans (ext_size HE2.out) (ext_size HE3.out))) ?_
                    rintro v4 w4 ⟨hE4, hr4⟩
                    have HR4 := Lib.hid hr4
                    have HR24 := Lib.hid (rowF_ext _ _ _ hE4 HR3.out)
                    have HE4 := Lib.hid (ext_trans HE3.out hE4)
                    clear hW3 hE3 hon hE4 hr4
                    go_simp
                    go_wp2_with (at_builtin; refine halt_here ?_)
                    refine go_on ?_
                    refine wpList_append rfl (.tmp 62) (.tmp 63) rfl v4 v2 rfl rfl (fun v' w' => rowF elJ w.heap.size (([] ++ [z]) ++ []) v' w' ∧ w4.grownBy w' v4.ownBlock) (append_onto tpJ _ w.heap.size _ _ ([] ++ [z]) [] w4 HR4.out (srcOf_row HR24.out.1) (by simp) (Nat.le_trans (ext_size HE2.out) (ext_size HE4.out))) ?_
                    rintro v5 w5 ⟨hr5, hg5⟩
                    have HR5 := Lib.hid hr5
                    have HE5 := Lib.hid (show Ext w w5 from ext_of_upd (upd_trans (upd_of_ext (ext_trans HE2.out HE4.out)) (upd_grown hg5) (fun i hi e => absurd hi (by have := HR4.out.2 _ e; omega))))
                    clear hr5 hg5
                    go_simp
                    go_wp2
                    go_roundw
                    case rel => exact ⟨1, by omega, by go_num, _, rfl, by rw [stg_1, ← HO.out, ← HZ.out, HIN.out]; exact HR5.out, HE5.out⟩
                    case measure => simp [intOf]
                  · simp only [Value.slice.injEq] at hv0
                    obtain ⟨rfl, hno0, rfl⟩ := hv0
                    have hqc : no ≤ c1 := (rowE_cap HRO.out.1).2
                    have hnq : ¬ (q : Int) < (no : Int) := by omega
                    have HIN := Lib.hid (show insZ o z = (o.take q ++ [z]) ++ [] by rw [HIN.out, List.drop_of_length_le (by rw [← HNO.out]; omega)])
                    clear heq hg1 hno0
                    subst hqe
                    by_cases hcc : q = c1
                    · subst hcc
                      go_wp2_with (at_builtin; refine halt_here ?_)
                      refine go_on ?_
                      obtain ⟨W1, hW1⟩ : ∃ W1, W1 = wr.alloc (.cells #[] 3) := ⟨_, rfl⟩
                      have hE1 : Ext wr W1 := by rw [hW1]; exact ext_alloc (ext_refl _) _
                      have hno1 : noneF elJ w.heap.size (.slice (some ⟨wr.heap.size, 0, none⟩) 0 0) W1 := ⟨wr.heap.size, rfl, ext_size HE2.out, by rw [hW1]; exact heap_alloc_new _ _⟩
                      rw [← hW1]
                      refine wpList_append rfl (.tmp 51) (.tmp 54) rfl (.slice (some ⟨wr.heap.size, 0, none⟩) 0 0) _ rfl rfl (fun v' w' => Ext W1 w' ∧ rowF elJ w.heap.size [] v' w') (append_copy tpJ _ w.heap.size _ _ [] W1 hno1 (srcOf_nil _ _ _) (by simp)) ?_
                      rintro v2 w2 ⟨hE2', hr2⟩
                      have HR2 := Lib.hid hr2
                      have HE2' := Lib.hid (ext_trans hE1 hE2')
                      clear hW1 hE1 hno1 hE2' hr2
                      go_simp
                      go_wp2_with (at_builtin; refine halt_here ?_)
                      refine go_on ?_
                      obtain ⟨W3, hW3⟩ : ∃ W3, W3 = w2.alloc (.cells #[.int .i64 z] 3) := ⟨_, rfl⟩
                      have hE3 : Ext w2 W3 := by rw [hW3]; exact ext_alloc (ext_refl _) _
                      have hon : oneF elJ w.heap.size z (.slice (some ⟨w2.heap.size, 0, none⟩) 1 1) W3 := ⟨w2.heap.size, rfl, Nat.le_trans (ext_size HE2.out) (ext_size HE2'.out), by rw [hW3]; exact heap_alloc_new _ _⟩
                      have HE3 := Lib.hid (ext_trans HE2'.out hE3)
                      have HR3 := Lib.hid (rowF_ext _ _ _ hE3 HR2.out)
                      rw [← hW3]
                      refine wpList_append rfl (.tmp 59) (.tmp 61) rfl (.slice (some ⟨g1, 0, none⟩) q q) (.slice (some ⟨w2.heap.size, 0, none⟩) 1 1) rfl rfl (fun v' w' => Ext W3 w' ∧ rowF elJ w.heap.size ((o.take q) ++ [z]) v' w') (append_full tpJ _ (some ⟨g1, 0, none⟩) (o.take q) [z] W3 w.heap.size _ _ (by rw [show (o.take q).length = q from by rw [List.length_take, Nat.min_eq_left (by rw [← HNO.out]; exact hqn)]]) (srcZ_take (rowE_ext HRO.out.1 HE3.out) q (by rw [← HNO.out]; exact hqn) _) (srcOf_one hon) (by simp) (by have := HNO.out; have := List.length_take_le q o; simp only [List.length_cons, List.length_nil]; omega) (Nat.le_trans (ext_size HE2.out) (ext_size HE3.out))) ?_
                      rintro v4 w4 ⟨hE4, hr4⟩
                      have HR4 := Lib.hid hr4
                      have HR24 := Lib.hid (rowF_ext _ _ _ hE4 HR3.out)
                      have HE4 := Lib.hid (ext_trans HE3.out hE4)
                      clear hW3 hE3 hon hE4 hr4
                      go_simp
                      go_wp2_with (at_builtin; refine halt_here ?_)
                      refine go_on ?_
                      refine wpList_append rfl (.tmp 62) (.tmp 63) rfl v4 v2 rfl rfl (fun v' w' => rowF elJ w.heap.size (((o.take q) ++ [z]) ++ []) v' w' ∧ w4.grownBy w' v4.ownBlock) (append_onto tpJ _ w.heap.size _ _ ((o.take q) ++ [z]) [] w4 HR4.out (srcOf_row HR24.out.1) (by have := HNO.out; have := List.length_take_le q o; rw [List.length_append]; simp only [List.length_cons, List.length_nil]; omega) (Nat.le_trans (ext_size HE2.out) (ext_size HE4.out))) ?_
                      rintro v5 w5 ⟨hr5, hg5⟩
                      have HR5 := Lib.hid hr5
                      have HE5 := Lib.hid (show Ext w w5 from ext_of_upd (upd_trans (upd_of_ext (ext_trans HE2.out HE4.out)) (upd_grown hg5) (fun i hi e => absurd hi (by have := HR4.out.2 _ e; omega))))
                      clear hr5 hg5
                      go_simp
                      go_wp2
                      go_roundw
                      case rel => exact ⟨1, by omega, by go_num, _, rfl, by rw [stg_1, ← HO.out, ← HZ.out, HIN.out]; exact HR5.out, HE5.out⟩
                      case measure => simp [intOf]
                    · have hcl : q < c1 := by omega
                      go_wp2_with (at_builtin; refine halt_here ?_)
                      refine go_on ?_
                      obtain ⟨W1, hW1⟩ : ∃ W1, W1 = wr.alloc (.cells #[] 3) := ⟨_, rfl⟩
                      have hE1 : Ext wr W1 := by rw [hW1]; exact ext_alloc (ext_refl _) _
                      have hno1 : noneF elJ w.heap.size (.slice (some ⟨wr.heap.size, 0, none⟩) 0 0) W1 := ⟨wr.heap.size, rfl, ext_size HE2.out, by rw [hW1]; exact heap_alloc_new _ _⟩
                      rw [← hW1]
                      refine wpList_append rfl (.tmp 51) (.tmp 54) rfl (.slice (some ⟨wr.heap.size, 0, none⟩) 0 0) _ rfl rfl (fun v' w' => Ext W1 w' ∧ rowF elJ w.heap.size [] v' w') (append_copy tpJ _ w.heap.size _ _ [] W1 hno1 (srcOf_nil _ _ _) (by simp)) ?_
                      rintro v2 w2 ⟨hE2', hr2⟩
                      have HR2 := Lib.hid hr2
                      have HE2' := Lib.hid (ext_trans hE1 hE2')
                      clear hW1 hE1 hno1 hE2' hr2
                      go_simp
                      go_wp2_with (at_builtin; refine halt_here ?_)
                      refine go_on ?_
                      obtain ⟨W3, hW3⟩ : ∃ W3, W3 = w2.alloc (.cells #[.int .i64 z] 3) := ⟨_, rfl⟩
                      have hE3 : Ext w2 W3 := by rw [hW3]; exact ext_alloc (ext_refl _) _
                      have hon : oneF elJ w.heap.size z (.slice (some ⟨w2.heap.size, 0, none⟩) 1 1) W3 := ⟨w2.heap.size, rfl, Nat.le_trans (ext_size HE2.out) (ext_size HE2'.out), by rw [hW3]; exact heap_alloc_new _ _⟩
                      have HE3 := Lib.hid (ext_trans HE2'.out hE3)
                      have HR3 := Lib.hid (rowF_ext _ _ _ hE3 HR2.out)
                      rw [← hW3]
                      refine wpList_append rfl (.tmp 59) (.tmp 61) rfl (.slice (some ⟨g1, 0, none⟩) q q) (.slice (some ⟨w2.heap.size, 0, none⟩) 1 1) rfl rfl (fun v' w' => Ext W3 w' ∧ rowF elJ w.heap.size ((o.take q) ++ [z]) v' w') (append_full tpJ _ (some ⟨g1, 0, none⟩) (o.take q) [z] W3 w.heap.size _ _ (by rw [show (o.take q).length = q from by rw [List.length_take, Nat.min_eq_left (by rw [← HNO.out]; exact hqn)]]) (srcZ_take (rowE_ext HRO.out.1 HE3.out) q (by rw [← HNO.out]; exact hqn) _) (srcOf_one hon) (by simp) (by have := HNO.out; have := List.length_take_le q o; simp only [List.length_cons, List.length_nil]; omega) (Nat.le_trans (ext_size HE2.out) (ext_size HE3.out))) ?_
                      rintro v4 w4 ⟨hE4, hr4⟩
                      have HR4 := Lib.hid hr4
                      have HR24 := Lib.hid (rowF_ext _ _ _ hE4 HR3.out)
                      have HE4 := Lib.hid (ext_trans HE3.out hE4)
                      clear hW3 hE3 hon hE4 hr4
                      go_simp
                      go_wp2_with (at_builtin; refine halt_here ?_)
                      refine go_on ?_
                      refine wpList_append rfl (.tmp 62) (.tmp 63) rfl v4 v2 rfl rfl (fun v' w' => rowF elJ w.heap.size (((o.take q) ++ [z]) ++ []) v' w' ∧ w4.grownBy w' v4.ownBlock) (append_onto tpJ _ w.heap.size _ _ ((o.take q) ++ [z]) [] w4 HR4.out (srcOf_row HR24.out.1) (by have := HNO.out; have := List.length_take_le q o; rw [List.length_append]; simp only [List.length_cons, List.length_nil]; omega) (Nat.le_trans (ext_size HE2.out) (ext_size HE4.out))) ?_
                      rintro v5 w5 ⟨hr5, hg5⟩
                      have HR5 := Lib.hid hr5
                      have HE5 := Lib.hid (show Ext w w5 from ext_of_upd (upd_trans (upd_of_ext (ext_trans HE2.out HE4.out)) (upd_grown hg5) (fun i hi e => absurd hi (by have := HR4.out.2 _ e; omega))))
                      clear hr5 hg5
                      go_simp
                      go_wp2
                      go_roundw
                      case rel => exact ⟨1, by omega, by go_num, _, rfl, by rw [stg_1, ← HO.out, ← HZ.out, HIN.out]; exact HR5.out, HE5.out⟩
                      case measure => simp [intOf]
        · obtain ⟨o, ho⟩ : ∃ o, o = stg (nodesL (E.take j)) x.1 1 := ⟨_, rfl⟩
          rw [← ho] at hro
          have HO := Lib.hid ho
          obtain ⟨A1, c1, hvo⟩ := rowE_form hro.1
          subst hvo
          have hol : o.length ≤ 600 := by rw [ho]; exact stg_len _ _ _ (Nat.le_trans (nodesL_len _) (by rw [List.length_take]; omega))
          obtain ⟨no, hno⟩ : ∃ n, n = o.length := ⟨_, rfl⟩
          rw [← hno] at hro hol ⊢
          obtain ⟨z, hz⟩ : ∃ z, z = x.1.c := ⟨_, rfl⟩
          rw [← hz] at e2
          have HZ := Lib.hid hz
          have HNO := Lib.hid hno
          have HRO := Lib.hid hro
          have HE2 := Lib.hid hE2
          clear hro hE2 ho hno hz
          go_wp2
          go_loopw [7] (fun y wn => ∃ q : Nat, q ≤ ltN o z ∧ y = .int .i64 (q : Int) ∧ wn = wr) (fun y _ => no - (intOf y).toNat)
          case atStart => exact ⟨0, by omega, rfl, rfl⟩
          case round =>
            obtain ⟨q, hq, rfl, rfl⟩ := hrel
            have hqn : q ≤ no := by rw [HNO.out]; exact Nat.le_trans hq (ltN_le _ _)
            have HQ := Lib.hid hq
            clear hq
            by_cases hlt : q < ltN o z
            · obtain ⟨y, hy, hyz⟩ := ltN_lt hlt
              have hqo : q < no := by rw [HNO.out]; exact (List.getElem?_eq_some_iff.1 hy).1
              obtain ⟨g1, rfl, lg1⟩ := rowE_some HRO.out.1 (fun e => by rw [e] at hy; simp at hy)
              have y0 := rowJ_cell HRO.out.1 hy
              have hqi : (q : Int) < (no : Int) := by omega
              have HLT := Lib.hid hlt
              clear hlt hy
              go_wp2
              go_roundw
              case rel => exact ⟨q + 1, HLT.out, by go_num, by first | rfl | trivial⟩
              case measure => simp [intOf]; omega
            · have HLT := Lib.hid (show q = ltN o z by have := HQ.out; omega)
              clear hlt
              by_cases heq : q < no ∧ o[q]? = some z
              · obtain ⟨hqo, hoz⟩ := heq
                obtain ⟨g1, rfl, lg1⟩ := rowE_some HRO.out.1 (fun e => by rw [e] at hoz; simp at hoz)
                have y0 := rowJ_cell HRO.out.1 hoz
                have hqi : (q : Int) < (no : Int) := by omega
                have HIN := Lib.hid (show insZ o z = o from if_pos (by rw [← HLT.out]; exact hoz))
                clear hoz
                go_wp2
                go_roundw
                case rel => exact ⟨2, by omega, by go_num, _, rfl, by rw [stg_2, ← HO.out, ← HZ.out, HIN.out]; exact HRO.out, HE2.out⟩
                case measure => simp [intOf]
              · have HIN := Lib.hid (show insZ o z = o.take q ++ [z] ++ o.drop q by
                  unfold insZ
                  rw [← HLT.out, if_neg (fun e => heq ⟨by rw [HNO.out]; exact (List.getElem?_eq_some_iff.1 e).1, e⟩)])
                by_cases hqo : q < no
                · obtain ⟨y, hy⟩ : ∃ y, o[q]? = some y := ⟨_, List.getElem?_eq_getElem (by rw [← HNO.out]; exact hqo)⟩
                  obtain ⟨g1, rfl, lg1⟩ := rowE_some HRO.out.1 (fun e => by rw [e] at hy; simp at hy)
                  have y0 := rowJ_cell HRO.out.1 hy
                  have hyz : ¬ y < z := ltN_at (by rw [← HLT.out]; exact hy)
                  have hye : decide (y = z) = false := by simpa using fun e => heq ⟨hqo, by rw [hy, e]⟩
                  have hyn : ¬ y = z := by simpa using hye
                  have hqi : (q : Int) < (no : Int) := by omega
                  have hqc : no ≤ c1 := (rowE_cap HRO.out.1).2
                  clear heq hy
                  go_wp2_with (at_builtin; refine halt_here ?_)
                  refine go_on ?_
                  obtain ⟨W1, hW1⟩ : ∃ W1, W1 = wr.alloc (.cells #[] 3) := ⟨_, rfl⟩
                  have hE1 : Ext wr W1 := by rw [hW1]; exact ext_alloc (ext_refl _) _
                  have hno1 : noneF elJ w.heap.size (.slice (some ⟨wr.heap.size, 0, none⟩) 0 0) W1 := ⟨wr.heap.size, rfl, ext_size HE2.out, by rw [hW1]; exact heap_alloc_new _ _⟩
                  rw [← hW1]
                  refine wpList_append rfl (.tmp 51) (.tmp 54) rfl (.slice (some ⟨wr.heap.size, 0, none⟩) 0 0) (.slice (some ⟨g1, q, none⟩) (no - q) (c1 - q)) rfl rfl (fun v' w' => Ext W1 w' ∧ rowF elJ w.heap.size (o.drop q) v' w') (append_copy tpJ _ w.heap.size _ _ (o.drop q) W1 hno1 (srcZ_drop (rowE_ext HRO.out.1 hE1) q (by rw [← HNO.out]; exact hqn) _ _ (by rw [HNO.out])) (by have := HNO.out; rw [List.length_drop]; omega)) ?_
                  rintro v2 w2 ⟨hE2', hr2⟩
                  have HR2 := Lib.hid hr2
                  have HE2' := Lib.hid (ext_trans hE1 hE2')
                  clear hW1 hE1 hno1 hE2' hr2
                  go_simp
                  go_wp2_with (at_builtin; refine halt_here ?_)
                  refine go_on ?_
                  obtain ⟨W3, hW3⟩ : ∃ W3, W3 = w2.alloc (.cells #[.int .i64 z] 3) := ⟨_, rfl⟩
                  have hE3 : Ext w2 W3 := by rw [hW3]; exact ext_alloc (ext_refl _) _
                  have hon : oneF elJ w.heap.size z (.slice (some ⟨w2.heap.size, 0, none⟩) 1 1) W3 := ⟨w2.heap.size, rfl, Nat.le_trans (ext_size HE2.out) (ext_size HE2'.out), by rw [hW3]; exact heap_alloc_new _ _⟩
                  have HE3 := Lib.hid (ext_trans HE2'.out hE3)
                  have HR3 := Lib.hid (rowF_ext _ _ _ hE3 HR2.out)
                  rw [← hW3]
                  refine wpList_append rfl (.tmp 59) (.tmp 61) rfl (.slice (some ⟨g1, 0, none⟩) q q) (.slice (some ⟨w2.heap.size, 0, none⟩) 1 1) rfl rfl (fun v' w' => Ext W3 w' ∧ rowF elJ w.heap.size ((o.take q) ++ [z]) v' w') (append_full tpJ _ (some ⟨g1, 0, none⟩) (o.take q) [z] W3 w.heap.size _ _ (by rw [show (o.take q).length = q from by rw [List.length_take, Nat.min_eq_left (by rw [← HNO.out]; exact hqn)]]) (srcZ_take (rowE_ext HRO.out.1 HE3.out) q (by rw [← HNO.out]; exact hqn) _) (srcOf_one hon) (by simp) (by have := HNO.out; have := List.length_take_le q o; simp only [List.length_cons, List.length_nil]; omega) (Nat.le_trans (ext_size HE2.out) (ext_size HE3.out))) ?_
                  rintro v4 w4 ⟨hE4, hr4⟩
                  have HR4 := Lib.hid hr4
                  have HR24 := Lib.hid (rowF_ext _ _ _ hE4 HR3.out)
                  have HE4 := Lib.hid (ext_trans HE3.out hE4)
                  clear hW3 hE3 hon hE4 hr4
                  go_simp
                  go_wp2_with (at_builtin; refine halt_here ?_)
                  refine go_on ?_
                  refine wpList_append rfl (.tmp 62) (.tmp 63) rfl v4 v2 rfl rfl (fun v' w' => rowF elJ w.heap.size (((o.take q) ++ [z]) ++ (o.drop q)) v' w' ∧ w4.grownBy w' v4.ownBlock) (append_onto tpJ _ w.heap.size _ _ ((o.take q) ++ [z]) (o.drop q) w4 HR4.out (srcOf_row HR24.out.1) (by have := HNO.out; have := List.length_take_le q o; rw [List.length_append, List.length_drop]; simp only [List.length_cons, List.length_nil]; omega) (Nat.le_trans (ext_size HE2.out) (ext_size HE4.out))) ?_
                  rintro v5 w5 ⟨hr5, hg5⟩
                  have HR5 := Lib.hid hr5
                  have HE5 := Lib.hid (show Ext w w5 from ext_of_upd (upd_trans (upd_of_ext (ext_trans HE2.out HE4.out)) (upd_grown hg5) (fun i hi e => absurd hi (by have := HR4.out.2 _ e; omega))))
                  clear hr5 hg5
                  go_simp
                  go_wp2
                  go_roundw
                  case rel => exact ⟨2, by omega, by go_num, _, rfl, by rw [stg_2, ← HO.out, ← HZ.out, HIN.out]; exact HR5.out, HE5.out⟩
                  case measure => simp [intOf]
                · have hqe : q = no := by omega
                  rcases rowE_cases HRO.out.1 with ⟨hv0, ho0⟩ | ⟨g1, cap, cur, hv0, hg1, _⟩
                  · simp only [Value.slice.injEq] at hv0
                    obtain ⟨rfl, hno0, rfl⟩ := hv0
                    subst ho0
                    have hq0 : q = 0 := by omega
                    rw [hq0] at HIN HLT ⊢
                    rw [hno0] at HRO ⊢
                    have HIN := Lib.hid (show insZ [] z = ([] ++ [z]) ++ [] from by simpa using HIN.out)
                    clear heq
                    go_wp2_with (at_builtin; refine halt_here ?_)
                    refine go_on ?_
                    obtain ⟨W1, hW1⟩ : ∃ W1, W1 = wr.alloc (.cells #[] 3) := ⟨_, rfl⟩
                    have hE1 : Ext wr W1 := by rw [hW1]; exact ext_alloc (ext_refl _) _
                    have hno1 : noneF elJ w.heap.size (.slice (some ⟨wr.heap.size, 0, none⟩) 0 0) W1 := ⟨wr.heap.size, rfl, ext_size HE2.out, by rw [hW1]; exact heap_alloc_new _ _⟩
                    rw [← hW1]
                    refine wpList_append rfl (.tmp 51) (.tmp 54) rfl (.slice (some ⟨wr.heap.size, 0, none⟩) 0 0) (.slice none 0 0) rfl rfl (fun v' w' => Ext W1 w' ∧ rowF elJ w.heap.size [] v' w') (append_copy tpJ _ w.heap.size _ _ [] W1 hno1 (srcOf_nil _ _ _) (by simp)) ?_
                    rintro v2 w2 ⟨hE2', hr2⟩
                    have HR2 := Lib.hid hr2
                    have HE2' := Lib.hid (ext_trans hE1 hE2')
                    clear hW1 hE1 hno1 hE2' hr2
                    go_simp
                    go_wp2_with (at_builtin; refine halt_here ?_)
                    refine go_on ?_
                    obtain ⟨W3, hW3⟩ : ∃ W3, W3 = w2.alloc (.cells #[.int .i64 z] 3) := ⟨_, rfl⟩
                    have hE3 : Ext w2 W3 := by rw [hW3]; exact ext_alloc (ext_refl _) _
                    have hon : oneF elJ w.heap.size z (.slice (some ⟨w2.heap.size, 0, none⟩) 1 1) W3 := ⟨w2.heap.size, rfl, Nat.le_trans (ext_size HE2.out) (ext_size HE2'.out), by rw [hW3]; exact heap_alloc_new _ _⟩
                    have HE3 := Lib.hid (ext_trans HE2'.out hE3)
                    have HR3 := Lib.hid (rowF_ext _ _ _ hE3 HR2.out)
                    rw [← hW3]
                    refine wpList_append rfl (.tmp 59) (.tmp 61) rfl (.slice none 0 0) (.slice (some ⟨w2.heap.size, 0, none⟩) 1 1) rfl rfl (fun v' w' => Ext W3 w' ∧ rowF elJ w.heap.size ([] ++ [z]) v' w') (append_full tpJ _ none [] [z] W3 w.heap.size _ _ (by rw [show [].length = 0 from rfl]) (srcOf_nil _ _ _) (srcOf_one hon) (by simp) (by simp) (Nat.le_trans (ext_size HE2.out) (ext_size HE3.out))) ?_
                    rintro v4 w4 ⟨hE4, hr4⟩
                    have HR4 := Lib.hid hr4
                    have HR24 := Lib.hid (rowF_ext _ _ _ hE4 HR3.out)
                    have HE4 := Lib.hid (ext_trans HE3.out hE4)
                    clear hW3 hE3 hon hE4 hr4
                    go_simp
                    go_wp2_with (at_builtin; refine halt_here ?_)
                    refine go_on ?_
                    refine wpList_append rfl (.tmp 62) (.tmp 63) rfl v4 v2 rfl rfl (fun v' w' => rowF elJ w.heap.size (([] ++ [z]) ++ []) v' w' ∧ w4.grownBy w' v4.ownBlock) (append_onto tpJ _ w.heap.size _ _ ([] ++ [z]) [] w4 HR4.out (srcOf_row HR24.out.1) (by simp) (Nat.le_trans (ext_size HE2.out) (ext_size HE4.out))) ?_
                    rintro v5 w5 ⟨hr5, hg5⟩
                    have HR5 := Lib.hid hr5
                    have HE5 := Lib.hid (show Ext w w5 from ext_of_upd (upd_trans (upd_of_ext (ext_trans HE2.out HE4.out)) (upd_grown hg5) (fun i hi e => absurd hi (by have := HR4.out.2 _ e; omega))))
                    clear hr5 hg5
                    go_simp
                    go_wp2
                    go_roundw
                    case rel => exact ⟨2, by omega, by go_num, _, rfl, by rw [stg_2, ← HO.out, ← HZ.out, HIN.out]; exact HR5.out, HE5.out⟩
                    case measure => simp [intOf]
                  · simp only [Value.slice.injEq] at hv0
                    obtain ⟨rfl, hno0, rfl⟩ := hv0
                    have hqc : no ≤ c1 := (rowE_cap HRO.out.1).2
                    have hnq : ¬ (q : Int) < (no : Int) := by omega
                    have HIN := Lib.hid (show insZ o z = (o.take q ++ [z]) ++ [] by rw [HIN.out, List.drop_of_length_le (by rw [← HNO.out]; omega)])
                    clear heq hg1 hno0
                    subst hqe
                    by_cases hcc : q = c1
                    · subst hcc
                      go_wp2_with (at_builtin; refine halt_here ?_)
                      refine go_on ?_
                      obtain ⟨W1, hW1⟩ : ∃ W1, W1 = wr.alloc (.cells #[] 3) := ⟨_, rfl⟩
                      have hE1 : Ext wr W1 := by rw [hW1]; exact ext_alloc (ext_refl _) _
                      have hno1 : noneF elJ w.heap.size (.slice (some ⟨wr.heap.size, 0, none⟩) 0 0) W1 := ⟨wr.heap.size, rfl, ext_size HE2.out, by rw [hW1]; exact heap_alloc_new _ _⟩
                      rw [← hW1]
                      refine wpList_append rfl (.tmp 51) (.tmp 54) rfl (.slice (some ⟨wr.heap.size, 0, none⟩) 0 0) _ rfl rfl (fun v' w' => Ext W1 w' ∧ rowF elJ w.heap.size [] v' w') (append_copy tpJ _ w.heap.size _ _ [] W1 hno1 (srcOf_nil _ _ _) (by simp)) ?_
                      rintro v2 w2 ⟨hE2', hr2⟩
                      have HR2 := Lib.hid hr2
                      have HE2' := Lib.hid (ext_trans hE1 hE2')
                      clear hW1 hE1 hno1 hE2' hr2
                      go_simp
                      go_wp2_with (at_builtin; refine halt_here ?_)
                      refine go_on ?_
                      obtain ⟨W3, hW3⟩ : ∃ W3, W3 = w2.alloc (.cells #[.int .i64 z] 3) := ⟨_, rfl⟩
                      have hE3 : Ext w2 W3 := by rw [hW3]; exact ext_alloc (ext_refl _) _
                      have hon : oneF elJ w.heap.size z (.slice (some ⟨w2.heap.size, 0, none⟩) 1 1) W3 := ⟨w2.heap.size, rfl, Nat.le_trans (ext_size HE2.out) (ext_size HE2'.out), by rw [hW3]; exact heap_alloc_new _ _⟩
                      have HE3 := Lib.hid (ext_trans HE2'.out hE3)
                      have HR3 := Lib.hid (rowF_ext _ _ _ hE3 HR2.out)
                      rw [← hW3]
                      refine wpList_append rfl (.tmp 59) (.tmp 61) rfl (.slice (some ⟨g1, 0, none⟩) q q) (.slice (some ⟨w2.heap.size, 0, none⟩) 1 1) rfl rfl (fun v' w' => Ext W3 w' ∧ rowF elJ w.heap.size ((o.take q) ++ [z]) v' w') (append_full tpJ _ (some ⟨g1, 0, none⟩) (o.take q) [z] W3 w.heap.size _ _ (by rw [show (o.take q).length = q from by rw [List.length_take, Nat.min_eq_left (by rw [← HNO.out]; exact hqn)]]) (srcZ_take (rowE_ext HRO.out.1 HE3.out) q (by rw [← HNO.out]; exact hqn) _) (srcOf_one hon) (by simp) (by have := HNO.out; have := List.length_take_le q o; simp only [List.length_cons, List.length_nil]; omega) (Nat.le_trans (ext_size HE2.out) (ext_size HE3.out))) ?_
                      rintro v4 w4 ⟨hE4, hr4⟩
                      have HR4 := Lib.hid hr4
                      have HR24 := Lib.hid (rowF_ext _ _ _ hE4 HR3.out)
                      have HE4 := Lib.hid (ext_trans HE3.out hE4)
                      clear hW3 hE3 hon hE4 hr4
                      go_simp
                      go_wp2_with (at_builtin; refine halt_here ?_)
                      refine go_on ?_
                      refine wpList_append rfl (.tmp 62) (.tmp 63) rfl v4 v2 rfl rfl (fun v' w' => rowF elJ w.heap.size (((o.take q) ++ [z]) ++ []) v' w' ∧ w4.grownBy w' v4.ownBlock) (append_onto tpJ _ w.heap.size _ _ ((o.take q) ++ [z]) [] w4 HR4.out (srcOf_row HR24.out.1) (by have := HNO.out; have := List.length_take_le q o; rw [List.length_append]; simp only [List.length_cons, List.length_nil]; omega) (Nat.le_trans (ext_size HE2.out) (ext_size HE4.out))) ?_
                      rintro v5 w5 ⟨hr5, hg5⟩
                      have HR5 := Lib.hid hr5
                      have HE5 := Lib.hid (show Ext w w5 from ext_of_upd (upd_trans (upd_of_ext (ext_trans HE2.out HE4.out)) (upd_grown hg5) (fun i hi e => absurd hi (by have := HR4.out.2 _ e; omega))))
                      clear hr5 hg5
                      go_simp
                      go_wp2
                      go_roundw
                      case rel => exact ⟨2, by omega, by go_num, _, rfl, by rw [stg_2, ← HO.out, ← HZ.out, HIN.out]; exact HR5.out, HE5.out⟩
                      case measure => simp [intOf]
                    · have hcl : q < c1 := by omega
                      go_wp2_with (at_builtin; refine halt_here ?_)
                      refine go_on ?_
                      obtain ⟨W1, hW1⟩ : ∃ W1, W1 = wr.alloc (.cells #[] 3) := ⟨_, rfl⟩
                      have hE1 : Ext wr W1 := by rw [hW1]; exact ext_alloc (ext_refl _) _
                      have hno1 : noneF elJ w.heap.size (.slice (some ⟨wr.heap.size, 0, none⟩) 0 0) W1 := ⟨wr.heap.size, rfl, ext_size HE2.out, by rw [hW1]; exact heap_alloc_new _ _⟩
                      rw [← hW1]
                      refine wpList_append rfl (.tmp 51) (.tmp 54) rfl (.slice (some ⟨wr.heap.size, 0, none⟩) 0 0) _ rfl rfl (fun v' w' => Ext W1 w' ∧ rowF elJ w.heap.size [] v' w') (append_copy tpJ _ w.heap.size _ _ [] W1 hno1 (srcOf_nil _ _ _) (by simp)) ?_
                      rintro v2 w2 ⟨hE2', hr2⟩
                      have HR2 := Lib.hid hr2
                      have HE2' := Lib.hid (ext_trans hE1 hE2')
                      clear hW1 hE1 hno1 hE2' hr2
                      go_simp
                      go_wp2_with (at_builtin; refine halt_here ?_)
                      refine go_on ?_
                      obtain ⟨W3, hW3⟩ : ∃ W3, W3 = w2.alloc (.cells #[.int .i64 z] 3) := ⟨_, rfl⟩
                      have hE3 : Ext w2 W3 := by rw [hW3]; exact ext_alloc (ext_refl _) _
                      have hon : oneF elJ w.heap.size z (.slice (some ⟨w2.heap.size, 0, none⟩) 1 1) W3 := ⟨w2.heap.size, rfl, Nat.le_trans (ext_size HE2.out) (ext_size HE2'.out), by rw [hW3]; exact heap_alloc_new _ _⟩
                      have HE3 := Lib.hid (ext_trans HE2'.out hE3)
                      have HR3 := Lib.hid (rowF_ext _ _ _ hE3 HR2.out)
                      rw [← hW3]
                      refine wpList_append rfl (.tmp 59) (.tmp 61) rfl (.slice (some ⟨g1, 0, none⟩) q q) (.slice (some ⟨w2.heap.size, 0, none⟩) 1 1) rfl rfl (fun v' w' => Ext W3 w' ∧ rowF elJ w.heap.size ((o.take q) ++ [z]) v' w') (append_full tpJ _ (some ⟨g1, 0, none⟩) (o.take q) [z] W3 w.heap.size _ _ (by rw [show (o.take q).length = q from by rw [List.length_take, Nat.min_eq_left (by rw [← HNO.out]; exact hqn)]]) (srcZ_take (rowE_ext HRO.out.1 HE3.out) q (by rw [← HNO.out]; exact hqn) _) (srcOf_one hon) (by simp) (by have := HNO.out; have := List.length_take_le q o; simp only [List.length_cons, List.length_nil]; omega) (Nat.le_trans (ext_size HE2.out) (ext_size HE3.out))) ?_
                      rintro v4 w4 ⟨hE4, hr4⟩
                      have HR4 := Lib.hid hr4
                      have HR24 := Lib.hid (rowF_ext _ _ _ hE4 HR3.out)
                      have HE4 := Lib.hid (ext_trans HE3.out hE4)
                      clear hW3 hE3 hon hE4 hr4
                      go_simp
                      go_wp2_with (at_builtin; refine halt_here ?_)
                      refine go_on ?_
                      refine wpList_append rfl (.tmp 62) (.tmp 63) rfl v4 v2 rfl rfl (fun v' w' => rowF elJ w.heap.size (((o.take q) ++ [z]) ++ []) v' w' ∧ w4.grownBy w' v4.ownBlock) (append_onto tpJ _ w.heap.size _ _ ((o.take q) ++ [z]) [] w4 HR4.out (srcOf_row HR24.out.1) (by have := HNO.out; have := List.length_take_le q o; rw [List.length_append]; simp only [List.length_cons, List.length_nil]; omega) (Nat.le_trans (ext_size HE2.out) (ext_size HE4.out))) ?_
                      rintro v5 w5 ⟨hr5, hg5⟩
                      have HR5 := Lib.hid hr5
                      have HE5 := Lib.hid (show Ext w w5 from ext_of_upd (upd_trans (upd_of_ext (ext_trans HE2.out HE4.out)) (upd_grown hg5) (fun i hi e => absurd hi (by have := HR4.out.2 _ e; omega))))
                      clear hr5 hg5
                      go_simp
                      go_wp2
                      go_roundw
                      case rel => exact ⟨2, by omega, by go_num, _, rfl, by rw [stg_2, ← HO.out, ← HZ.out, HIN.out]; exact HR5.out, HE5.out⟩
                      case measure => simp [intOf]
        · have hro' := Lib.hid hro
          have HE2 := Lib.hid hE2
          clear hro hE2
          go_wp2
          go_roundw
          case rel => exact ⟨j + 1, by omega, by go_num, _, rfl, by rw [nodesL_take HX.out]; exact hro'.out, HE2.out⟩
          case measure => simp [intOf]; omega
    · have h5 : j = n := by omega
      subst h5
      have hall : E.take j = E := by rw [HN.out, List.take_length]
      rw [hall] at HRV
      clear hall
      go_wp2
      refine bodyPost_ret (results_tmp rfl _ _ _) rfl ?_
      exact ⟨_, rfl, HRV.out, HE.out⟩
end Go.Proofs.Ytiabmdboacpmcaa
/- The document's Expire, walked. -/
namespace Go.Proofs.Ytiabmdboacpmcaa
open Go Go.RowKit Go.Sort Go.WideMaps Go.Maps
set_option maxHeartbeats 4000000

/-- the edges that last from a time on -/
def expL (E : List Ed) (b : Int) : List Ed := E.filter fun e => decide (b ≤ e.2)
theorem expL_take {E : List Ed} {b : Int} {j : Nat} {e : Ed} (h : E[j]? = some e) : expL (E.take (j + 1)) b = expL (E.take j) b ++ if b ≤ e.2 then [e] else [] := by
  unfold expL
  rw [List.take_add_one, h, Option.toList_some, List.filter_append]
  by_cases hb : b ≤ e.2
  · simp [hb]
  · simp [hb]
theorem expL_len (E : List Ed) (b : Int) : (expL E b).length ≤ E.length := List.length_filter_le ..
set_option maxRecDepth 100000 in
theorem refexp_any (v : Value) (E : List Ed) (b : Int) (w : World) (h : rowE elDr w v E) (hl : E.length ≤ 100) : Calls Try.prog 45 #[v, .int .i64 b] w fun e w' => ∃ v', e = .returned v' ∧ rowF elDr w.heap.size (expL E b) v' w' ∧ Ext w w' := by
  have HR := Lib.hid h
  obtain ⟨A0, c0, rfl⟩ := rowE_form h
  obtain ⟨n, hn⟩ : ∃ n, n = E.length := ⟨_, rfl⟩
  rw [← hn] at HR hl ⊢
  have HN := Lib.hid hn
  clear h hn
  go_enter Try.func45, Try.ntmps45
  go_wp2
  go_loopw [5, 9] (fun y x wn => ∃ j : Nat, j ≤ n ∧ x = .int .i64 (j : Int) ∧ ∃ vo, y = vo ∧ rowF elDr w.heap.size (expL (E.take j) b) vo wn ∧ Ext w wn) (fun _ x _ => n - (intOf x).toNat)
  case atStart => exact ⟨0, by omega, rfl, _, rfl, rowF_nil _ _, ext_refl _⟩
  case round =>
    rename World => wi
    obtain ⟨j, hj, rfl, vo, rfl, hR, hE⟩ := hrel
    have HRV := Lib.hid hR
    have HE := Lib.hid hE
    clear hR hE
    by_cases hlt : j < n
    · have hji : (j : Int) < (n : Int) := by omega
      have hj0 : (0 : Int) ≤ (j : Int) := by omega
      obtain ⟨x, hx⟩ : ∃ x, E[j]? = some x := ⟨_, List.getElem?_eq_getElem (by rw [← HN.out]; exact hlt)⟩
      have hri := rowE_ext HR.out HE.out
      obtain ⟨g, rfl, lg⟩ := rowE_some hri (fun e => by rw [e] at hx; simp at hx)
      have e0 : wi.cell? ⟨g, j * 4, none⟩ = some (.int .i64 x.1.a) := rowE_cell hri hx (j := 0) (u := .int .i64 x.1.a) rfl
      have e1 : wi.cell? ⟨g, j * 4 + 1, none⟩ = some (.int .i64 x.1.b) := rowE_cell hri hx (j := 1) (u := .int .i64 x.1.b) rfl
      have e2 : wi.cell? ⟨g, j * 4 + 2, none⟩ = some (.int .i64 x.1.c) := rowE_cell hri hx (j := 2) (u := .int .i64 x.1.c) rfl
      have e3 : wi.cell? ⟨g, j * 4 + 3, none⟩ = some (.int .i64 x.2) := rowE_cell hri hx (j := 3) (u := .int .i64 x.2) rfl
      have HT := Lib.hid (expL_take (b := b) hx)
      have hlen : (expL (E.take j) b).length ≤ 100 := by
        have h1 := expL_len (E.take j) b
        rw [List.length_take] at h1
        omega
      clear hx hri
      by_cases hb : b ≤ x.2
      · have HT' := Lib.hid (show expL (E.take (j + 1)) b = expL (E.take j) b ++ [x] by rw [HT.out, if_pos hb])
        go_wp2_with (at_builtin; refine halt_here ?_)
        refine go_on ?_
        obtain ⟨W3, hW3⟩ : ∃ W3, W3 = wi.alloc (.cells #[.int .i64 x.1.a, .int .i64 x.1.b, .int .i64 x.1.c, .int .i64 x.2] 75) := ⟨_, rfl⟩
        have hE3 : Ext wi W3 := by rw [hW3]; exact ext_alloc (ext_refl _) _
        have hon : oneF elDr w.heap.size x (.slice (some ⟨wi.heap.size, 0, none⟩) 1 1) W3 := ⟨wi.heap.size, rfl, ext_size HE.out, by rw [hW3]; exact heap_alloc_new _ _⟩
        rw [← hW3]
        refine wpList_append rfl (.tmp 19) (.tmp 24) rfl u5 (.slice (some ⟨wi.heap.size, 0, none⟩) 1 1) rfl rfl (fun v' w' => rowF elDr w.heap.size (expL (E.take j) b ++ [x]) v' w' ∧ W3.grownBy w' u5.ownBlock) (append_onto tpDr _ w.heap.size _ _ (expL (E.take j) b) [x] W3 (rowF_ext _ _ _ hE3 HRV.out) (srcOf_one hon) (by simp only [List.length_cons, List.length_nil]; omega) (ext_size (ext_trans HE.out hE3))) ?_
        rintro v7 w7 ⟨hr7, hg7⟩
        have HR7 := Lib.hid hr7
        have HE7 := Lib.hid (show Ext w w7 from ext_of_upd (upd_trans (upd_of_ext (ext_trans HE.out hE3)) (upd_grown hg7) (fun i hi e => absurd hi (by have := HRV.out.2 _ e; omega))))
        clear hW3 hE3 hon hr7 hg7
        go_simp
        go_wp2
        go_roundw
        case rel => exact ⟨j + 1, by omega, by go_num, _, rfl, by rw [HT'.out]; exact HR7.out, HE7.out⟩
        case measure => simp [intOf]; omega
      · have HT' := Lib.hid (show expL (E.take (j + 1)) b = expL (E.take j) b by rw [HT.out, if_neg hb, List.append_nil])
        go_wp2
        go_roundw
        case rel => exact ⟨j + 1, by omega, by go_num, _, rfl, by rw [HT'.out]; exact HRV.out, HE.out⟩
        case measure => simp [intOf]; omega
    · have h5 : j = n := by omega
      subst h5
      have hall : E.take j = E := by rw [HN.out, List.take_length]
      rw [hall] at HRV
      clear hall
      go_wp2
      refine bodyPost_ret (results_tmp rfl _ _ _) rfl ?_
      exact ⟨_, rfl, HRV.out, HE.out⟩
end Go.Proofs.Ytiabmdboacpmcaa
/- Plain: what is left of pairs behind a horizon; pairs counted row by row. -/
namespace Go.Proofs.Ytiabmdboacpmcaa
open Go

theorem run_max {E : Gr3} {h t x y : Int} {w : List Sy} (hr : Run (cutG E h) t x w y) : Run (cutG E h) (max t h) x w y := by
  induction hr with
  | nil x => exact .nil x
  | fwd h1 h2 _ ih => exact .fwd h1 (by have := (cutG_some.1 h1).2; omega) ih
  | bwd h1 h2 _ ih => exact .bwd h1 (by have := (cutG_some.1 h1).2; omega) ih
theorem cut_lead {L : List Sy → Prop} {E : Gr3} {h x y t : Int} (hd : Lead L E x y t) (ht : h ≤ t) (hx : isNode (cutG E h) x) : Lead L (cutG E h) x y t := by
  obtain ⟨_, h2, w, h3, h4⟩ := hd
  exact ⟨hx, h2, w, h3, run_cut h4 ht⟩
theorem cut_max {L : List Sy → Prop} {E : Gr3} {h x y t : Int} (hd : Lead L (cutG E h) x y t) (hh : h ≤ forever) : Lead L (cutG E h) x y (max t h) := by
  obtain ⟨h1, h2, w, h3, h4⟩ := hd
  exact ⟨h1, by omega, w, h3, run_max h4⟩
/-- what is left of the pairs -/
theorem cut_prs {L : List Sy → Prop} {E : Gr3} {h : Int} {p p' : Prs} (hp : PrsOf L E p) (hp' : PrsOf L (cutG E h) p') (hh : h ≤ forever) {x y : Int} (hx : isNode (cutG E h) x) (v : Int) : p' ⟨x, y⟩ = some v ↔ p ⟨x, y⟩ = some v ∧ h ≤ v := by
  rw [hp'.is, hp.is]
  constructor
  · rintro ⟨h1, h2⟩
    have h3 := h2 _ (cut_max h1 hh)
    refine ⟨⟨lead_mono (cutG_le E h) h1, fun t ht => ?_⟩, by omega⟩
    by_cases hc : h ≤ t
    · exact h2 t (cut_lead ht hc hx)
    · omega
  · rintro ⟨⟨h1, h2⟩, h3⟩
    exact ⟨cut_lead h1 h3 hx, fun t ht => h2 t (lead_mono (cutG_le E h) ht)⟩
theorem cut_val {L : List Sy → Prop} {E : Gr3} {h : Int} {p p' : Prs} (hp : PrsOf L E p) (hp' : PrsOf L (cutG E h) p') (hh : h ≤ forever) {x y : Int} (hx : isNode (cutG E h) x) :
    (p' ⟨x, y⟩).isSome = ((p ⟨x, y⟩).isSome && decide (h ≤ (p ⟨x, y⟩).getD 0)) ∧ ((p' ⟨x, y⟩).isSome = true → (p' ⟨x, y⟩).getD 0 = (p ⟨x, y⟩).getD 0) := by
  have hv := cut_prs hp hp' hh (y := y) hx
  cases h1 : p ⟨x, y⟩ with
  | none =>
    cases h2 : p' ⟨x, y⟩ with
    | none => simp
    | some v => have := ((hv v).1 h2).1; rw [h1] at this; cases this
  | some u =>
    by_cases hu : h ≤ u
    · have h2 := (hv u).2 ⟨h1, hu⟩
      rw [h2]
      simp [hu]
    · cases h2 : p' ⟨x, y⟩ with
      | none => simp [hu]
      | some v =>
        obtain ⟨h3, h4⟩ := (hv v).1 h2
        rw [h1] at h3
        cases h3
        exact absurd h4 hu
theorem prs_nodes {L : List Sy → Prop} {E : Gr3} {p : Prs} (hp : PrsOf L E p) {q : Two} (h : (p q).isSome = true) : isNode E q.a ∧ isNode E q.b := by
  obtain ⟨v, hv⟩ := Option.isSome_iff_exists.1 h
  obtain ⟨x, y⟩ := q
  exact lead_nodes ((hp.is x y v).1 hv).1
/-- how many pairs of a node there are among some nodes -/
def cntR (p : Prs) (x : Int) (Ns : List Int) : Nat := Ns.countP fun y => (p ⟨x, y⟩).isSome
/-- how many pairs there are of some nodes -/
def cntM (p : Prs) (Xs Ns : List Int) : Nat := (Xs.map fun x => cntR p x Ns).sum
theorem cntR_take {p : Prs} {x : Int} {Ns : List Int} {j : Nat} {y : Int} (h : Ns[j]? = some y) : cntR p x (Ns.take (j + 1)) = cntR p x (Ns.take j) + if (p ⟨x, y⟩).isSome = true then 1 else 0 := by
  unfold cntR
  rw [List.take_add_one, h, Option.toList_some, List.countP_append, List.countP_cons, List.countP_nil]
  omega
theorem cntM_take {p : Prs} {Ns : List Int} {Xs : List Int} {j : Nat} {x : Int} (h : Xs[j]? = some x) : cntM p (Xs.take (j + 1)) Ns = cntM p (Xs.take j) Ns + cntR p x Ns := by
  unfold cntM
  rw [List.take_add_one, h, Option.toList_some, List.map_append, List.sum_append]
  simp
theorem cntR_le (p : Prs) (x : Int) (Ns : List Int) : cntR p x Ns ≤ Ns.length := List.countP_le_length
theorem cntM_le (p : Prs) (Xs Ns : List Int) : cntM p Xs Ns ≤ Xs.length * Ns.length := by
  induction Xs with
  | nil => simp [cntM]
  | cons x Xs ih =>
    have h1 := cntR_le p x Ns
    unfold cntM at ih ⊢
    rw [List.map_cons, List.sum_cons, List.length_cons, Nat.add_mul, Nat.one_mul]
    omega
theorem cntM_len (p : Prs) (Xs Ns : List Int) : cntM p Xs Ns = (Xs.flatMap fun x => (Ns.filter fun y => (p ⟨x, y⟩).isSome).map fun y => (⟨x, y⟩ : Two)).length := by
  induction Xs with
  | nil => rfl
  | cons x Xs ih =>
    rw [List.flatMap_cons, List.length_append, List.length_map, ← ih, ← List.countP_eq_length_filter]
    unfold cntM cntR
    rw [List.map_cons, List.sum_cons]
theorem nodup_up {l : List Int} (h : l.Pairwise (· < ·)) : l.Nodup := h.imp (fun {a b} h e => by omega)
theorem cntM_card {p : Prs} {Ns : List Int} {bq N : Nat} {w : World} (hN : Ns.Nodup) (hm : ∀ q, (p q).isSome = true → q.a ∈ Ns ∧ q.b ∈ Ns) (h : MapQ bq N p w) : cntM p Ns Ns = N := by
  rw [cntM_len]
  refine mapG_card h ?_ (fun q => ?_)
  · have hall : ∀ Xs : List Int, Xs.Nodup → (Xs.flatMap fun x => (Ns.filter fun y => (p ⟨x, y⟩).isSome).map fun y => (⟨x, y⟩ : Two)).Nodup := by
      intro Xs
      induction Xs with
      | nil => intro _; exact List.nodup_nil
      | cons x Xs ih =>
        intro hX
        obtain ⟨h1, h2⟩ := List.nodup_cons.1 hX
        rw [List.flatMap_cons]
        refine List.nodup_append.2 ⟨?_, ih h2, fun a ha b hb e => ?_⟩
        · refine List.pairwise_map.2 ((List.Nodup.sublist (List.filter_sublist ..) hN).imp (fun {a b} hne e => hne ?_))
          simp only [Two.mk.injEq] at e
          exact e.2
        · obtain ⟨y, _, rfl⟩ := List.mem_map.1 ha
          obtain ⟨x', hx', hb⟩ := List.mem_flatMap.1 hb
          obtain ⟨y', _, rfl⟩ := List.mem_map.1 hb
          simp only [Two.mk.injEq] at e
          rw [e.1] at h1
          exact h1 hx'
    exact hall Ns hN
  · rw [List.mem_flatMap]
    constructor
    · rintro ⟨x, hx, hq⟩
      obtain ⟨y, hy, rfl⟩ := List.mem_map.1 hq
      exact (List.mem_filter.1 hy).2
    · intro hq
      obtain ⟨h1, h2⟩ := hm q hq
      obtain ⟨x, y⟩ := q
      exact ⟨x, h1, List.mem_map.2 ⟨y, List.mem_filter.2 ⟨h2, hq⟩, rfl⟩⟩
/-- the document's edges, cut -/
theorem grOf_exp : ∀ {E : List Ed} {b : Int}, KeysNd E → grOf (expL E b) = cutG (grOf E) b := by
  intro E b hnd
  have hnd' : KeysNd (expL E b) := List.Nodup.sublist ((List.filter_sublist ..).map _) hnd
  funext k
  refine Option.ext fun u => ?_
  rw [grOf_some hnd', cutG_some, grOf_some hnd]
  unfold expL
  rw [List.mem_filter]
  simp
theorem expL_nd {E : List Ed} {b : Int} (hnd : KeysNd E) : KeysNd (expL E b) := List.Nodup.sublist ((List.filter_sublist ..).map _) hnd
end Go.Proofs.Ytiabmdboacpmcaa
