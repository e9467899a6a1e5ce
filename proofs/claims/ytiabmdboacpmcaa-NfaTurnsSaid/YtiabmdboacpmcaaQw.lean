/- NfaTurns. -/
import Derived.Test.YtiabmdboacpmcaaRe
import Derived.Test.YtiabmdboacpmcaaQp
import Derived.Test.YtiabmdboacpmcaaGv
namespace Go.Proofs.Ytiabmdboacpmcaa
open Go Go.RowKit Go.Sort
set_option maxHeartbeats 4000000

theorem empty_turn (t : Tr) (hF : formB t = true) : emptyT (turnT t) = emptyT t := by
  have h1 := empty_words t (formB_iff t hF)
  have h2 := empty_words (turnT t) (formB_iff _ (by rw [turn_form]; exact hF))
  have h3 := turn_words t []
  rw [show flipW [] = ([] : List Sy) from rfl] at h3
  rw [Bool.eq_iff_iff, h1, h2, h3]
mutual
theorem turn_sym : ∀ (t : Tr), formB t = true → ∀ s, s ∈ symT (turnT t) ↔ flipS s ∈ symT t
  | .node k n ps, h, s => by
    have ff : ∀ s : Sy, flipS (flipS s) = s := fun s => by simp [flipS]
    rw [turnT, symT, symT]
    by_cases h0 : k = 0
    · subst h0
      simp only [if_true, true_or, or_true, List.mem_singleton, decide_true]
      obtain ⟨s1, s2⟩ := s
      cases s2 <;> simp [flipS]
    by_cases h1 : k = 1
    · subst h1
      obtain ⟨s1, s2⟩ := s
      cases s2 <;> simp [flipS]
    have hfl : formL ps = true := by
      rw [formB, if_neg (by omega)] at h
      split at h
      · rw [Bool.and_eq_true] at h; exact h.2
      · split at h
        · rw [Bool.and_eq_true] at h; exact h.2
        · cases h
    have hL := turn_symL ps hfl s
    have hn : ¬ (k = 0 ∨ k = 1) := by omega
    simp only [if_neg h0, if_neg h1, if_neg hn]
    split
    · rw [symL_rev]; exact hL
    · exact hL
theorem turn_symL : ∀ (ps : List Tr), formL ps = true → ∀ s, s ∈ symL (turnL ps) ↔ flipS s ∈ symL ps
  | [], _, s => by simp [turnL, symL]
  | p :: r, h, s => by
    rw [formL, Bool.and_eq_true] at h
    rw [turnL, symL, symL, List.mem_append, List.mem_append, turn_sym p h.1 s, turn_symL r h.2 s]
theorem symL_rev : ∀ (ps : List Tr) (s : Sy), s ∈ symL ps.reverse ↔ s ∈ symL ps
  | [], s => Iff.rfl
  | p :: r, s => by
    rw [List.reverse_cons]
    have : ∀ a : List Tr, s ∈ symL (a ++ [p]) ↔ s ∈ symL a ∨ s ∈ symT p := fun a => by
      induction a with
      | nil => simp [symL]
      | cons x r ih => rw [List.cons_append, symL, symL, List.mem_append, ih, List.mem_append, or_assoc]
    rw [this, symL_rev r, symL, List.mem_append, or_comm]
end
theorem turn_count {t : Tr} {L M : List Sy} (hF : formB t = true) (hL : SymsOf (turnT t) L) (hM : SymsOf t M) : L.length = M.length := by
  have ff : ∀ s : Sy, flipS (flipS s) = s := fun s => by simp [flipS]
  have nd : ∀ {K : List Sy}, StrictS K → K.Nodup := fun hK => hK.imp (fun {a b} h e => by rw [e, cmpS_neg] at h; omega)
  have hp : L.Perm (M.map flipS) := (List.perm_ext_iff_of_nodup (nd hL.strict) ((nd hM.strict).map flipS (fun a b hab e => hab (by rw [← ff a, ← ff b, e])))).2 (fun s => by
    rw [hL.mem, turn_sym t hF s, List.mem_map]
    constructor
    · intro h; exact ⟨flipS s, (hM.mem _).2 h, ff s⟩
    · rintro ⟨x, hx, rfl⟩
      rw [ff]
      exact (hM.mem _).1 hx)
  rw [hp.length_eq, List.length_map]
def SymR (t : Tr) (v : Value) (w : World) : Prop := ∃ A c L, v = .slice A L.length c ∧ SymsOf t L ∧ Ext w w
theorem symR_ext {t : Tr} (v : Value) (w w' : World) (_ : Ext w w') (h : SymR t v w) : SymR t v w' := by
  obtain ⟨A, c, L, h1, h2, -⟩ := h
  exact ⟨A, c, L, h1, h2, ext_refl _⟩
def CntR (t : Tr) (v : Value) (w : World) : Prop := ∃ L, v = .int .i64 ((List.length L : Nat) : Int) ∧ SymsOf t L ∧ Ext w w
theorem cntR_ext {t : Tr} (v : Value) (w w' : World) (_ : Ext w w') (h : CntR t v w) : CntR t v w' := by
  obtain ⟨L, h1, h2, -⟩ := h
  exact ⟨L, h1, h2, ext_refl _⟩
set_option maxRecDepth 100000 in
theorem turns_law (v vl : Value) (L : List Nd) (B : List Nat) (w : World) (hv : RdNd w v L) (hb : RdB w vl B) : Calls Try.prog 18 #[v, vl] w fun e w' => e = .returned (.bool true) ∧ Ext w w' := by
  have HV := Lib.hid hv
  have HBY := Lib.hid hb
  clear hv hb
  go_enter Try.func18, Try.ntmps18
  go_wp2_with fail
  refine (awake_any _).mono ?_
  rintro e w1 ⟨rfl, hE1⟩
  have HE1 := Lib.hid hE1
  clear hE1
  go_wp2_with fail
  refine (fix_any v L _ (rdNd_ext HV.out HE1.out)).mono ?_
  rintro e w2 ⟨L', v', rfl, hr, hF, hl, hE2⟩
  have HR := Lib.hid hr
  have HF := Lib.hid hF
  have HE2 := Lib.hid (ext_trans HE1.out hE2)
  have hl8 : L'.length ≤ 8 := by omega
  clear hr hF hE2 hl
  go_wp2_with fail
  refine (tree_fix 8 (by decide) (by decide) v' L' _ HR.out HF.out hl8).mono ?_
  rintro e w3 ⟨rb, n, t, k, z, A, q, c, rfl, hn, hfit, hlst, hpv, hE3⟩
  obtain ⟨hfb, hch, -⟩ := fit_chk hfit (by decide)
  have hsz : sizeT t ≤ 300 := by have := hfit.2.1; omega
  have HFO := Lib.hid (fit_form hfit)
  have HFB := Lib.hid hfb
  have HLS := Lib.hid hlst
  have HPV := Lib.hid hpv
  have HE3 := Lib.hid (ext_trans HE2.out hE3)
  clear hfit hlst hpv hE3 hfb hl8
  go_wp2_with fail
  have hE4 := ext_alloc (ext_refl w3) (.cells #[.int .i64 k, .int .i64 z, .slice A q c] 30)
  have hB4 := heap_alloc_new w3 (.cells #[.int .i64 k, .int .i64 z, .slice A q c] 30)
  obtain ⟨w4, hw4⟩ : ∃ w4, w4 = w3.alloc (.cells #[.int .i64 k, .int .i64 z, .slice A q c] 30) := ⟨_, rfl⟩
  obtain ⟨p6, hp6⟩ : ∃ p6, p6 = w3.heap.size := ⟨_, rfl⟩
  rw [← hw4] at hE4 hB4 ⊢
  rw [← hp6] at hB4 ⊢
  have HB4 := Lib.hid hB4
  have HE4 := Lib.hid (ext_trans HE3.out hE4)
  have HL4 := Lib.hid (lst_ext HLS.out hE4)
  have HP4 := Lib.hid (PV_ext HPV.out hE4)
  clear hw4 hp6 hE4 hB4 HLS HPV HE3
  refine (rcheck_any t rb n 0 _ (by omega) hn HL4.out).mono ?_
  rintro e w5 ⟨rfl, hE5⟩
  have HE5 := Lib.hid hE5
  clear hE5
  by_cases hz : chk t = 0
  · rw [hz]
    have HZ := Lib.hid hz
    clear hz hch
    go_wp2_with fail
    refine (word_any vl B _ (rdB_ext HBY.out (ext_trans HE4.out HE5.out))).mono ?_
    rintro e w7 ⟨U, va, vb, rfl, hza, hzb, hU5, -, hE7⟩
    have HZA := Lib.hid (rdY_rowZ hza.1)
    have HZB := Lib.hid (rdY_row hzb.1)
    have HE7 := Lib.hid (ext_trans HE5.out hE7)
    have h47 := (ext_block HE7.out (block_lt HB4.out)).trans HB4.out
    have c0 : w7.cell? ⟨p6, 0, none⟩ = some (.int .i64 k) := block_cell h47 0
    have c1 : w7.cell? ⟨p6, 1, none⟩ = some (.int .i64 z) := block_cell h47 1
    have c2 : w7.cell? ⟨p6, 2, none⟩ = some (.slice A q c) := block_cell h47 2
    have l7 := block_lt h47
    clear hza hzb hE7 HE5 h47
    go_wp2_with fail
    refine (turned_any t _ _ (by omega) (PV_ext HP4.out HE7.out)).mono ?_
    rintro e w8 ⟨k1, n1, A1, m1, d1, rfl, hp1, hX1⟩
    have HP1 := Lib.hid hp1
    have HX1 := Lib.hid hX1
    clear hp1 hX1 c0 c1 c2 l7
    go_wp2_with fail
    have hE9 := ext_alloc (ext_refl w8) (.cells #[.int .i64 k1, .int .i64 n1, .slice A1 m1 d1] 30)
    have hB9 := heap_alloc_new w8 (.cells #[.int .i64 k1, .int .i64 n1, .slice A1 m1 d1] 30)
    obtain ⟨w9, hw9⟩ : ∃ w9, w9 = w8.alloc (.cells #[.int .i64 k1, .int .i64 n1, .slice A1 m1 d1] 30) := ⟨_, rfl⟩
    obtain ⟨p9, hp9⟩ : ∃ p, p = w8.heap.size := ⟨_, rfl⟩
    rw [← hw9] at hE9 hB9 ⊢
    rw [← hp9] at hB9 ⊢
    have HB9 := Lib.hid hB9
    have HE9 := Lib.hid (ext_trans HX1.out hE9)
    have HP9 := Lib.hid (PV_ext HP1.out hE9)
    clear hw9 hp9 hE9 hB9 HP1 HX1
    refine (turned_any (turnT t) _ w9 (by rw [turn_size]; omega) HP9.out).mono ?_
    rintro e x1 ⟨k2, n2, A2, m2, d2, rfl, hp2, hX2⟩
    rw [turn_turn] at hp2
    have HP2 := Lib.hid hp2
    have HX2 := Lib.hid hX2
    clear hp2 hX2
    go_wp2_with fail
    refine (compile_yes t _ _ HP2.out HZ.out).mono ?_
    rintro e x2 ⟨p', rfl, hM2, hX3⟩
    have HM2 := Lib.hid hM2
    have HX3 := Lib.hid (ext_trans HX2.out hX3)
    clear hM2 hX3
    go_wp2_with fail
    have h9x := (ext_block HX3.out (block_lt HB9.out)).trans HB9.out
    have hE79 := ext_trans HE9.out HX3.out
    have h4x := (ext_block (ext_trans HE7.out hE79) (block_lt HB4.out)).trans HB4.out
    have c0 : x2.cell? ⟨p6, 0, none⟩ = some (.int .i64 k) := block_cell h4x 0
    have c1 : x2.cell? ⟨p6, 1, none⟩ = some (.int .i64 z) := block_cell h4x 1
    have c2 : x2.cell? ⟨p6, 2, none⟩ = some (.slice A q c) := block_cell h4x 2
    have l6 := block_lt h4x
    have e0 : x2.cell? ⟨p9, 0, none⟩ = some (.int .i64 k1) := block_cell h9x 0
    have e1 : x2.cell? ⟨p9, 1, none⟩ = some (.int .i64 n1) := block_cell h9x 1
    have e2 : x2.cell? ⟨p9, 2, none⟩ = some (.slice A1 m1 d1) := block_cell h9x 2
    have l9 := block_lt h9x
    have hgc := cell_grown
    have HE79 := Lib.hid hE79
    obtain ⟨em, hem⟩ : ∃ b, emptyT t = b := ⟨_, rfl⟩
    obtain ⟨yes, hyes⟩ : ∃ b, tk t U = b := ⟨_, rfl⟩
    have hbe := beq_self em
    have hby := beq_self yes
    have C23 : Hid (∀ W', Ext x2 W' → Calls Try.prog 23 #[.agg #[.int .i64 k1, .int .i64 n1, .slice A1 m1 d1]] W' fun e w'' => e = .returned (.int .i64 0) ∧ Ext W' w'') := Lib.hid (fun W' hE' => by
      have := check_any (turnT t) _ W' (by rw [turn_size]; omega) (PV_ext HP9.out (ext_trans HX3.out hE'))
      rw [turn_chk, HZ.out] at this
      exact this)
    have C34 : Hid (∀ W', Ext x2 W' → Calls Try.prog 34 #[.agg #[.int .i64 k1, .int .i64 n1, .slice A1 m1 d1]] W' fun e w'' => e = .returned (.bool em) ∧ Ext W' w'') := Lib.hid (fun W' hE' => by
      have := empty_any (turnT t) _ W' (by rw [turn_size]; omega) (PV_ext HP9.out (ext_trans HX3.out hE'))
      rw [empty_turn t HFB.out, hem] at this
      exact this)
    have C34' : Hid (∀ W', Ext x2 W' → Calls Try.prog 34 #[.agg #[.int .i64 k, .int .i64 z, .slice A q c]] W' fun e w'' => e = .returned (.bool em) ∧ Ext W' w'') := Lib.hid (fun W' hE' => by
      have := empty_any t _ W' (by omega) (PV_ext HP4.out (ext_trans HE7.out (ext_trans HE79.out hE')))
      rw [hem] at this
      exact this)
    have C24 : Hid (∀ W', Ext x2 W' → Calls Try.prog 24 #[.pointer (some ⟨p', 0, none⟩), vb] W' fun e w'' => e = .returned (.bool yes) ∧ Ext W' w'') := Lib.hid (fun W' hE' => by
      have := mtakes_any _ W' p' t vb U (machT_ext HM2.out hE') (rdY_ext HZB.out (ext_trans HE79.out hE')) (by omega)
      rw [hyes] at this
      exact this)
    have C33 : Hid (∀ W', Ext x2 W' → Calls Try.prog 33 #[.slice (some ⟨rb, 0, none⟩) n n, .int .i64 0, va] W' fun e w'' => e = .returned (.bool yes) ∧ Ext W' w'') := Lib.hid (fun W' hE' => by
      have := rtakes_any t rb n 0 va U W' (by omega) (by omega) HFB.out hn (lst_ext HL4.out (ext_trans HE7.out (ext_trans HE79.out hE'))) (rdY_ext HZA.out (ext_trans HE79.out hE'))
      rw [hyes] at this
      exact this)
    clear hem hyes hE79
    have HB4x := Lib.hid h4x
    have HB9x := Lib.hid h9x
    have b0 : ∀ pw : UW (fun _ => False) x2, pw.val.cell? ⟨p6, 0, none⟩ = some (.int .i64 k) := uw_cell c0 (fun h => h)
    have b1 : ∀ pw : UW (fun _ => False) x2, pw.val.cell? ⟨p6, 1, none⟩ = some (.int .i64 z) := uw_cell c1 (fun h => h)
    have b2 : ∀ pw : UW (fun _ => False) x2, pw.val.cell? ⟨p6, 2, none⟩ = some (.slice A q c) := uw_cell c2 (fun h => h)
    have b3 : ∀ pw : UW (fun _ => False) x2, pw.val.cell? ⟨p9, 0, none⟩ = some (.int .i64 k1) := uw_cell e0 (fun h => h)
    have b4 : ∀ pw : UW (fun _ => False) x2, pw.val.cell? ⟨p9, 1, none⟩ = some (.int .i64 n1) := uw_cell e1 (fun h => h)
    have b5 : ∀ pw : UW (fun _ => False) x2, pw.val.cell? ⟨p9, 2, none⟩ = some (.slice A1 m1 d1) := uw_cell e2 (fun h => h)
    clear c0 c1 c2 l6 e0 e1 e2 l9 hgc h4x h9x
    refine wp_region_fan (fp := fun _ => False) [] [0, 1, 2, 3, 4, 5, 6, 7, 8, 9, 10, 11, 12, 13, 14, 15, 16, 17, 18, 19, 20, 21, 22] [] 23 (fun v _ => v = .bool true) [24, 25, 26, 27, 28, 29, 30, 31, 32] [23] rfl (by kernel_rfl) (by kernel_rfl) (by kernel_rfl) (fun _ _ d _ _ h => by cases d <;> exact h) ?_
    refine wpPre_nil ?_
    iterate 6 (refine wpU_step rfl (fun K hK => ?_); (try simp only [Oper.quietAt, Oper.quietUpon]); go_simp; first | (refine hK _ ?_; clear hK K) | (apply Exists.intro; refine ⟨fun p => ?_, hK _ ?_⟩; (first | (go_at_call 23; exact C23.out _ (ext_of_upd p.ok)) | (go_at_call 34; exact C34.out _ (ext_of_upd p.ok))); clear hK K))
    repeat (refine wpU_step rfl (fun K hK => ?_); (try simp only [Oper.quietAt, Oper.quietUpon]); go_simp; first | (refine hK _ ?_; clear hK K) | (apply Exists.intro; refine ⟨fun p => ?_, hK _ ?_⟩; (first | (go_at_call 24; exact C24.out _ (ext_of_upd p.ok)) | (go_at_call 33; exact C33.out _ (ext_of_upd p.ok)) | (go_at_call 34; exact C34'.out _ (ext_of_upd p.ok))); clear hK K))
    refine wpU_nil ?_
    refine wpGen_nil ?_
    refine ⟨⟨_, rfl, rfl, fun v a b hE hR => hR⟩, fun w6 hE6 hS6 o ho => ?_, fun o ho v w6 hU6 hR6 => ?_⟩
    · cases ho
      simp only [runsAt]
      go_simp
      exact upd_refl
    · cases ho
      subst hR6
      have HC := Lib.hid (ext_of_upd hU6)
      clear hU6 b0 b1 b2 b3 b4 b5 C23 C34 C34' C24 C33
      refine wpAny_two (i := 24) (j := 27) (by kernel_rfl) rfl rfl ?_ ?_
      · have h4 := (ext_block HC.out (block_lt HB9x.out)).trans HB9x.out
        have g0 := block_cell h4 0
        have g1 := block_cell h4 1
        have g2 := block_cell h4 2
        have l4 := block_lt h4
        simp at g0 g1 g2
        go_wp2_with fail
        clear h4 g0 g1 g2 l4
        refine wpAny_two (i := 25) (j := 27) (by kernel_rfl) rfl rfl ?_ ?_
        · go_wp2_with fail
          refine (sym_all 1000 (by decide) (turnT t) _ _ (by rw [turn_size]; omega) (by rw [turn_form]; exact HFB.out) (PV_ext HP9.out (ext_trans HX3.out HC.out))).mono ?_
          rintro e y25 ⟨A9, c9, L9, rfl, -, hso9, hEy⟩
          have HSO9 := Lib.hid hso9
          replace HC := Lib.hid (ext_trans HC.out hEy)
          clear hso9 hEy
          go_wp2_with fail
          refine wpAny_two (i := 26) (j := 27) (by kernel_rfl) rfl rfl ?_ ?_
          · go_wp2_with fail
            refine wpAny_one (i := 27) (by kernel_rfl) rfl ?_
            have h4 := (ext_block HC.out (block_lt HB4x.out)).trans HB4x.out
            have g0 := block_cell h4 0
            have g1 := block_cell h4 1
            have g2 := block_cell h4 2
            have l4 := block_lt h4
            simp at g0 g1 g2
            go_wp2_with fail
            clear h4 g0 g1 g2 l4
            refine wpAny_one (i := 28) (by kernel_rfl) rfl ?_
            go_wp2_with fail
            refine (sym_all 1000 (by decide) t _ _ (by omega) HFB.out (PV_ext HP4.out (ext_trans HE7.out (ext_trans HE79.out HC.out)))).mono ?_
            rintro e y28 ⟨A8, c8, L8, rfl, -, hso8, hEy⟩
            have HSO8 := Lib.hid hso8
            replace HC := Lib.hid (ext_trans HC.out hEy)
            clear hso8 hEy
            go_wp2_with fail
            refine wpAny_one (i := 29) (by kernel_rfl) rfl ?_
            go_wp2_with fail
            refine wpAny_one (i := 30) (by kernel_rfl) rfl ?_
            have hcc : ((L9.length : Int) == (L8.length : Int)) = true := by rw [beq_iff_eq, turn_count HFB.out HSO9.out HSO8.out]
            go_wp2_with fail
            refine wpAny_one (i := 31) (by kernel_rfl) rfl ?_
            go_wp2_with fail
            refine wpAny_one (i := 32) (by kernel_rfl) rfl ?_
            go_wp2_with fail
            refine wpAny_end (by kernel_rfl) ?_
            go_wp2
            refine bodyPost_ret (results_tmp rfl _ _ _) rfl ?_
            exact ⟨rfl, ext_trans HE4.out (ext_trans HE7.out (ext_trans HE79.out HC.out))⟩
          · have h4 := (ext_block HC.out (block_lt HB4x.out)).trans HB4x.out
            have g0 := block_cell h4 0
            have g1 := block_cell h4 1
            have g2 := block_cell h4 2
            have l4 := block_lt h4
            simp at g0 g1 g2
            go_wp2_with fail
            clear h4 g0 g1 g2 l4
            refine wpAny_two (i := 26) (j := 28) (by kernel_rfl) rfl rfl ?_ ?_
            · go_wp2_with fail
              refine wpAny_one (i := 28) (by kernel_rfl) rfl ?_
              go_wp2_with fail
              refine (sym_all 1000 (by decide) t _ _ (by omega) HFB.out (PV_ext HP4.out (ext_trans HE7.out (ext_trans HE79.out HC.out)))).mono ?_
              rintro e y28 ⟨A8, c8, L8, rfl, -, hso8, hEy⟩
              have HSO8 := Lib.hid hso8
              replace HC := Lib.hid (ext_trans HC.out hEy)
              clear hso8 hEy
              go_wp2_with fail
              refine wpAny_one (i := 29) (by kernel_rfl) rfl ?_
              go_wp2_with fail
              refine wpAny_one (i := 30) (by kernel_rfl) rfl ?_
              have hcc : ((L9.length : Int) == (L8.length : Int)) = true := by rw [beq_iff_eq, turn_count HFB.out HSO9.out HSO8.out]
              go_wp2_with fail
              refine wpAny_one (i := 31) (by kernel_rfl) rfl ?_
              go_wp2_with fail
              refine wpAny_one (i := 32) (by kernel_rfl) rfl ?_
              go_wp2_with fail
              refine wpAny_end (by kernel_rfl) ?_
              go_wp2
              refine bodyPost_ret (results_tmp rfl _ _ _) rfl ?_
              exact ⟨rfl, ext_trans HE4.out (ext_trans HE7.out (ext_trans HE79.out HC.out))⟩
            · go_wp2_with fail
              refine (sym_all 1000 (by decide) t _ _ (by omega) HFB.out (PV_ext HP4.out (ext_trans HE7.out (ext_trans HE79.out HC.out)))).mono ?_
              rintro e y28 ⟨A8, c8, L8, rfl, -, hso8, hEy⟩
              have HSO8 := Lib.hid hso8
              replace HC := Lib.hid (ext_trans HC.out hEy)
              clear hso8 hEy
              go_wp2_with fail
              refine wpAny_two (i := 26) (j := 29) (by kernel_rfl) rfl rfl ?_ ?_
              · go_wp2_with fail
                refine wpAny_one (i := 29) (by kernel_rfl) rfl ?_
                go_wp2_with fail
                refine wpAny_one (i := 30) (by kernel_rfl) rfl ?_
                have hcc : ((L9.length : Int) == (L8.length : Int)) = true := by rw [beq_iff_eq, turn_count HFB.out HSO9.out HSO8.out]
                go_wp2_with fail
                refine wpAny_one (i := 31) (by kernel_rfl) rfl ?_
                go_wp2_with fail
                refine wpAny_one (i := 32) (by kernel_rfl) rfl ?_
                go_wp2_with fail
                refine wpAny_end (by kernel_rfl) ?_
                go_wp2
                refine bodyPost_ret (results_tmp rfl _ _ _) rfl ?_
                exact ⟨rfl, ext_trans HE4.out (ext_trans HE7.out (ext_trans HE79.out HC.out))⟩
              · go_wp2_with fail
                refine wpAny_one (i := 26) (by kernel_rfl) rfl ?_
                go_wp2_with fail
                refine wpAny_one (i := 30) (by kernel_rfl) rfl ?_
                have hcc : ((L9.length : Int) == (L8.length : Int)) = true := by rw [beq_iff_eq, turn_count HFB.out HSO9.out HSO8.out]
                go_wp2_with fail
                refine wpAny_one (i := 31) (by kernel_rfl) rfl ?_
                go_wp2_with fail
                refine wpAny_one (i := 32) (by kernel_rfl) rfl ?_
                go_wp2_with fail
                refine wpAny_end (by kernel_rfl) ?_
                go_wp2
                refine bodyPost_ret (results_tmp rfl _ _ _) rfl ?_
                exact ⟨rfl, ext_trans HE4.out (ext_trans HE7.out (ext_trans HE79.out HC.out))⟩
        · have h4 := (ext_block HC.out (block_lt HB4x.out)).trans HB4x.out
          have g0 := block_cell h4 0
          have g1 := block_cell h4 1
          have g2 := block_cell h4 2
          have l4 := block_lt h4
          simp at g0 g1 g2
          go_wp2_with fail
          clear h4 g0 g1 g2 l4
          refine wpAny_one (i := 25) (by kernel_rfl) rfl ?_
          go_wp2_with fail
          refine (sym_all 1000 (by decide) (turnT t) _ _ (by rw [turn_size]; omega) (by rw [turn_form]; exact HFB.out) (PV_ext HP9.out (ext_trans HX3.out HC.out))).mono ?_
          rintro e y25 ⟨A9, c9, L9, rfl, -, hso9, hEy⟩
          have HSO9 := Lib.hid hso9
          replace HC := Lib.hid (ext_trans HC.out hEy)
          clear hso9 hEy
          go_wp2_with fail
          refine wpAny_two (i := 26) (j := 28) (by kernel_rfl) rfl rfl ?_ ?_
          · go_wp2_with fail
            refine wpAny_one (i := 28) (by kernel_rfl) rfl ?_
            go_wp2_with fail
            refine (sym_all 1000 (by decide) t _ _ (by omega) HFB.out (PV_ext HP4.out (ext_trans HE7.out (ext_trans HE79.out HC.out)))).mono ?_
            rintro e y28 ⟨A8, c8, L8, rfl, -, hso8, hEy⟩
            have HSO8 := Lib.hid hso8
            replace HC := Lib.hid (ext_trans HC.out hEy)
            clear hso8 hEy
            go_wp2_with fail
            refine wpAny_one (i := 29) (by kernel_rfl) rfl ?_
            go_wp2_with fail
            refine wpAny_one (i := 30) (by kernel_rfl) rfl ?_
            have hcc : ((L9.length : Int) == (L8.length : Int)) = true := by rw [beq_iff_eq, turn_count HFB.out HSO9.out HSO8.out]
            go_wp2_with fail
            refine wpAny_one (i := 31) (by kernel_rfl) rfl ?_
            go_wp2_with fail
            refine wpAny_one (i := 32) (by kernel_rfl) rfl ?_
            go_wp2_with fail
            refine wpAny_end (by kernel_rfl) ?_
            go_wp2
            refine bodyPost_ret (results_tmp rfl _ _ _) rfl ?_
            exact ⟨rfl, ext_trans HE4.out (ext_trans HE7.out (ext_trans HE79.out HC.out))⟩
          · go_wp2_with fail
            refine (sym_all 1000 (by decide) t _ _ (by omega) HFB.out (PV_ext HP4.out (ext_trans HE7.out (ext_trans HE79.out HC.out)))).mono ?_
            rintro e y28 ⟨A8, c8, L8, rfl, -, hso8, hEy⟩
            have HSO8 := Lib.hid hso8
            replace HC := Lib.hid (ext_trans HC.out hEy)
            clear hso8 hEy
            go_wp2_with fail
            refine wpAny_two (i := 26) (j := 29) (by kernel_rfl) rfl rfl ?_ ?_
            · go_wp2_with fail
              refine wpAny_one (i := 29) (by kernel_rfl) rfl ?_
              go_wp2_with fail
              refine wpAny_one (i := 30) (by kernel_rfl) rfl ?_
              have hcc : ((L9.length : Int) == (L8.length : Int)) = true := by rw [beq_iff_eq, turn_count HFB.out HSO9.out HSO8.out]
              go_wp2_with fail
              refine wpAny_one (i := 31) (by kernel_rfl) rfl ?_
              go_wp2_with fail
              refine wpAny_one (i := 32) (by kernel_rfl) rfl ?_
              go_wp2_with fail
              refine wpAny_end (by kernel_rfl) ?_
              go_wp2
              refine bodyPost_ret (results_tmp rfl _ _ _) rfl ?_
              exact ⟨rfl, ext_trans HE4.out (ext_trans HE7.out (ext_trans HE79.out HC.out))⟩
            · go_wp2_with fail
              refine wpAny_one (i := 26) (by kernel_rfl) rfl ?_
              go_wp2_with fail
              refine wpAny_one (i := 30) (by kernel_rfl) rfl ?_
              have hcc : ((L9.length : Int) == (L8.length : Int)) = true := by rw [beq_iff_eq, turn_count HFB.out HSO9.out HSO8.out]
              go_wp2_with fail
              refine wpAny_one (i := 31) (by kernel_rfl) rfl ?_
              go_wp2_with fail
              refine wpAny_one (i := 32) (by kernel_rfl) rfl ?_
              go_wp2_with fail
              refine wpAny_end (by kernel_rfl) ?_
              go_wp2
              refine bodyPost_ret (results_tmp rfl _ _ _) rfl ?_
              exact ⟨rfl, ext_trans HE4.out (ext_trans HE7.out (ext_trans HE79.out HC.out))⟩
      · have h4 := (ext_block HC.out (block_lt HB4x.out)).trans HB4x.out
        have g0 := block_cell h4 0
        have g1 := block_cell h4 1
        have g2 := block_cell h4 2
        have l4 := block_lt h4
        simp at g0 g1 g2
        go_wp2_with fail
        clear h4 g0 g1 g2 l4
        refine wpAny_one (i := 24) (by kernel_rfl) rfl ?_
        have h4 := (ext_block HC.out (block_lt HB9x.out)).trans HB9x.out
        have g0 := block_cell h4 0
        have g1 := block_cell h4 1
        have g2 := block_cell h4 2
        have l4 := block_lt h4
        simp at g0 g1 g2
        go_wp2_with fail
        clear h4 g0 g1 g2 l4
        refine wpAny_one (i := 25) (by kernel_rfl) rfl ?_
        go_wp2_with fail
        refine (sym_all 1000 (by decide) (turnT t) _ _ (by rw [turn_size]; omega) (by rw [turn_form]; exact HFB.out) (PV_ext HP9.out (ext_trans HX3.out HC.out))).mono ?_
        rintro e y25 ⟨A9, c9, L9, rfl, -, hso9, hEy⟩
        have HSO9 := Lib.hid hso9
        replace HC := Lib.hid (ext_trans HC.out hEy)
        clear hso9 hEy
        go_wp2_with fail
        refine wpAny_two (i := 26) (j := 28) (by kernel_rfl) rfl rfl ?_ ?_
        · go_wp2_with fail
          refine wpAny_one (i := 28) (by kernel_rfl) rfl ?_
          go_wp2_with fail
          refine (sym_all 1000 (by decide) t _ _ (by omega) HFB.out (PV_ext HP4.out (ext_trans HE7.out (ext_trans HE79.out HC.out)))).mono ?_
          rintro e y28 ⟨A8, c8, L8, rfl, -, hso8, hEy⟩
          have HSO8 := Lib.hid hso8
          replace HC := Lib.hid (ext_trans HC.out hEy)
          clear hso8 hEy
          go_wp2_with fail
          refine wpAny_one (i := 29) (by kernel_rfl) rfl ?_
          go_wp2_with fail
          refine wpAny_one (i := 30) (by kernel_rfl) rfl ?_
          have hcc : ((L9.length : Int) == (L8.length : Int)) = true := by rw [beq_iff_eq, turn_count HFB.out HSO9.out HSO8.out]
          go_wp2_with fail
          refine wpAny_one (i := 31) (by kernel_rfl) rfl ?_
          go_wp2_with fail
          refine wpAny_one (i := 32) (by kernel_rfl) rfl ?_
          go_wp2_with fail
          refine wpAny_end (by kernel_rfl) ?_
          go_wp2
          refine bodyPost_ret (results_tmp rfl _ _ _) rfl ?_
          exact ⟨rfl, ext_trans HE4.out (ext_trans HE7.out (ext_trans HE79.out HC.out))⟩
        · go_wp2_with fail
          refine (sym_all 1000 (by decide) t _ _ (by omega) HFB.out (PV_ext HP4.out (ext_trans HE7.out (ext_trans HE79.out HC.out)))).mono ?_
          rintro e y28 ⟨A8, c8, L8, rfl, -, hso8, hEy⟩
          have HSO8 := Lib.hid hso8
          replace HC := Lib.hid (ext_trans HC.out hEy)
          clear hso8 hEy
          go_wp2_with fail
          refine wpAny_two (i := 26) (j := 29) (by kernel_rfl) rfl rfl ?_ ?_
          · go_wp2_with fail
            refine wpAny_one (i := 29) (by kernel_rfl) rfl ?_
            go_wp2_with fail
            refine wpAny_one (i := 30) (by kernel_rfl) rfl ?_
            have hcc : ((L9.length : Int) == (L8.length : Int)) = true := by rw [beq_iff_eq, turn_count HFB.out HSO9.out HSO8.out]
            go_wp2_with fail
            refine wpAny_one (i := 31) (by kernel_rfl) rfl ?_
            go_wp2_with fail
            refine wpAny_one (i := 32) (by kernel_rfl) rfl ?_
            go_wp2_with fail
            refine wpAny_end (by kernel_rfl) ?_
            go_wp2
            refine bodyPost_ret (results_tmp rfl _ _ _) rfl ?_
            exact ⟨rfl, ext_trans HE4.out (ext_trans HE7.out (ext_trans HE79.out HC.out))⟩
          · go_wp2_with fail
            refine wpAny_one (i := 26) (by kernel_rfl) rfl ?_
            go_wp2_with fail
            refine wpAny_one (i := 30) (by kernel_rfl) rfl ?_
            have hcc : ((L9.length : Int) == (L8.length : Int)) = true := by rw [beq_iff_eq, turn_count HFB.out HSO9.out HSO8.out]
            go_wp2_with fail
            refine wpAny_one (i := 31) (by kernel_rfl) rfl ?_
            go_wp2_with fail
            refine wpAny_one (i := 32) (by kernel_rfl) rfl ?_
            go_wp2_with fail
            refine wpAny_end (by kernel_rfl) ?_
            go_wp2
            refine bodyPost_ret (results_tmp rfl _ _ _) rfl ?_
            exact ⟨rfl, ext_trans HE4.out (ext_trans HE7.out (ext_trans HE79.out HC.out))⟩
  · rw [show chk t = 13 by rcases hch with h | h; exact absurd h hz; exact h]
    clear hz hch
    go_wp2
    refine bodyPost_ret (results_tmp rfl _ _ _) rfl ?_
    exact ⟨rfl, ext_trans HE4.out HE5.out⟩
end Go.Proofs.Ytiabmdboacpmcaa
