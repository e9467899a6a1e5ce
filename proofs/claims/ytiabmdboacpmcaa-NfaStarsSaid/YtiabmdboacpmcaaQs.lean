/- NfaStars. -/
import Derived.Test.YtiabmdboacpmcaaQr
import Derived.Test.YtiabmdboacpmcaaGw
namespace Go.Proofs.Ytiabmdboacpmcaa
open Go Go.RowKit Go.Sort
set_option maxHeartbeats 40000000

def S4 (k z : Int) (A : Option Addr) (q c : Nat) (v : Value) (w : World) : Prop := ∃ g, v = .slice (some ⟨g, 0, none⟩) 1 1 ∧ w.heap[g]? = some (.cells #[.int .i64 k, .int .i64 z, .slice A q c] 30 (0, 0))
theorem s4_ext {k z : Int} {A : Option Addr} {q c : Nat} (v : Value) (w w' : World) (hE : Ext w w') (h : S4 k z A q c v w) : S4 k z A q c v w' := by
  obtain ⟨g, h1, h2⟩ := h
  exact ⟨g, h1, (ext_block hE (block_lt h2)).trans h2⟩
def S5 (t : Tr) (v : Value) (w : World) : Prop := ∃ g, v = .agg #[.int .i64 4, .int .i64 0, .slice (some ⟨g, 0, none⟩) 1 1] ∧ PV w (.node 4 0 [t]) (.agg #[.int .i64 4, .int .i64 0, .slice (some ⟨g, 0, none⟩) 1 1])
theorem s5_ext {t : Tr} (v : Value) (w w' : World) (hE : Ext w w') (h : S5 t v w) : S5 t v w' := by
  obtain ⟨g, h1, h2⟩ := h
  exact ⟨g, h1, PV_ext h2 hE⟩
def S6 (t : Tr) (k z : Int) (A : Option Addr) (q c : Nat) (v : Value) (w : World) : Prop := ∃ g h, v = .slice (some ⟨h, 0, none⟩) 2 2 ∧ w.heap[h]? = some (.cells #[.int .i64 k, .int .i64 z, .slice A q c, .int .i64 4, .int .i64 0, .slice (some ⟨g, 0, none⟩) 1 1] 30 (0, 0)) ∧ PV w (.node 4 0 [t]) (.agg #[.int .i64 4, .int .i64 0, .slice (some ⟨g, 0, none⟩) 1 1])
theorem s6_ext {t : Tr} {k z : Int} {A : Option Addr} {q c : Nat} (v : Value) (w w' : World) (hE : Ext w w') (h : S6 t k z A q c v w) : S6 t k z A q c v w' := by
  obtain ⟨g, h, h1, h2, h3⟩ := h
  exact ⟨g, h, h1, (ext_block hE (block_lt h2)).trans h2, PV_ext h3 hE⟩
def S7 (t : Tr) (v : Value) (w : World) : Prop := ∃ h, v = .agg #[.int .i64 2, .int .i64 0, .slice (some ⟨h, 0, none⟩) 2 2] ∧ PV w (.node 2 0 [t, .node 4 0 [t]]) (.agg #[.int .i64 2, .int .i64 0, .slice (some ⟨h, 0, none⟩) 2 2])
theorem s7_ext {t : Tr} (v : Value) (w w' : World) (hE : Ext w w') (h : S7 t v w) : S7 t v w' := by
  obtain ⟨g, h1, h2⟩ := h
  exact ⟨g, h1, PV_ext h2 hE⟩
def S8 (t : Tr) (v : Value) (w : World) : Prop := ∃ (p : Nat) (W : World), v = .tuple #[.pointer (some ⟨p, 0, none⟩), .int .i64 0] ∧ MachT W w p (.node 2 0 [t, .node 4 0 [t]])
theorem s8_ext {t : Tr} (v : Value) (w w' : World) (hE : Ext w w') (h : S8 t v w) : S8 t v w' := by
  obtain ⟨p, W, h1, h2⟩ := h
  exact ⟨p, W, h1, machT_ext h2 hE⟩
set_option maxRecDepth 100000 in
theorem stars_law (v vl : Value) (L : List Nd) (B : List Nat) (w : World) (hv : RdNd w v L) (hb : RdB w vl B) : Calls Try.prog 5 #[v, vl] w fun e w' => e = .returned (.bool true) ∧ Ext w w' := by
  have HBY := Lib.hid hb
  obtain ⟨A0, c0, rfl, hc0, hok, hA⟩ := hv
  have HV : Hid (RdNd w (.slice A0 L.length c0) L) := Lib.hid ⟨A0, c0, rfl, hc0, hok, hA⟩
  clear hb hA hok
  go_enter Try.func5, Try.ntmps5
  go_wp2_with fail
  refine (awake_any _).mono ?_
  rintro e w1 ⟨rfl, hE1⟩
  have HE1 := Lib.hid hE1
  clear hE1
  have HV1 := Lib.hid (rdNd_ext HV.out HE1.out)
  by_cases h5 : 5 < L.length
  · have h5i : (5 : Int) < (L.length : Int) := by omega
    have h5c : (5 : Int) ≤ (c0 : Int) := by omega
    have h5n : 5 ≤ c0 := by omega
    have HV5 := Lib.hid (rdNd_take HV1.out (show 5 ≤ L.length by omega) c0 h5n)
    have HL5 : Hid ((L.take 5).length ≤ 5) := Lib.hid (by rw [List.length_take]; omega)
    obtain ⟨L5, hL5⟩ : ∃ L5, L5 = L.take 5 := ⟨_, rfl⟩
    rw [← hL5] at HV5 HL5
    clear hL5
    go_wp2_with fail
    refine (fix_any _ L5 _ HV5.out).mono ?_
    rintro e w2 ⟨L', v', rfl, hr, hF, hl, hE2⟩
    have HR := Lib.hid hr
    have HF := Lib.hid hF
    have HE2 := Lib.hid (ext_trans HE1.out hE2)
    have hl8 : L'.length ≤ 5 := by have := HL5.out; omega
    clear hr hF hE2 hl
    go_wp2_with fail
    refine (tree_fix 5 (by decide) (by decide) v' L' _ HR.out HF.out hl8).mono ?_
    rintro e w3 ⟨rb, n, t, k, z, A, q, c, rfl, hn, hfit, -, hpv, hE3⟩
    obtain ⟨hfb, hsz, hdp⟩ := fit_small hfit (by decide)
    have HFB := Lib.hid hfb
    have HPV := Lib.hid hpv
    have HE3 := Lib.hid (ext_trans HE2.out hE3)
    clear hfit hpv hE3 hfb hl8
    go_wp2_with fail
    have hE4 := ext_alloc (ext_refl w3) (.cells #[.int .i64 k, .int .i64 z, .slice A q c] 30)
    have hB4 := heap_alloc_new w3 (.cells #[.int .i64 k, .int .i64 z, .slice A q c] 30)
    obtain ⟨w4, hw4⟩ : ∃ w4, w4 = w3.alloc (.cells #[.int .i64 k, .int .i64 z, .slice A q c] 30) := ⟨_, rfl⟩
    obtain ⟨p6, hp6⟩ : ∃ p6, p6 = w3.heap.size := ⟨_, rfl⟩
    rw [← hw4] at hE4 hB4 ⊢
    rw [← hp6] at hB4 ⊢
    have HB4 := Lib.hid hB4
    have HE4 := Lib.hid (ext_trans HE3.out hE4)
    have HP4 := Lib.hid (PV_ext HPV.out hE4)
    clear hw4 hp6 hE4 hB4 HPV HE3
    refine (word_any vl B _ (rdB_ext HBY.out HE4.out)).mono ?_
    rintro e w7 ⟨U, va, vb, rfl, hza, hzb, hU5, -, hE7⟩
    have HZB := Lib.hid (rdY_row hzb.1)
    have HE7 := Lib.hid hE7
    have h47 := (ext_block hE7 (block_lt HB4.out)).trans HB4.out
    have c0' : w7.cell? ⟨p6, 0, none⟩ = some (.int .i64 k) := block_cell h47 0
    have c1' : w7.cell? ⟨p6, 1, none⟩ = some (.int .i64 z) := block_cell h47 1
    have c2' : w7.cell? ⟨p6, 2, none⟩ = some (.slice A q c) := block_cell h47 2
    have l7 := block_lt h47
    have HP7 := Lib.hid (PV_ext HP4.out hE7)
    have HB7 := Lib.hid h47
    clear hza hzb hE7 h47 HP4
    go_wp2_with fail
    clear c0' c1' c2' l7
    have hBa := heap_alloc_new w7 (.cells #[.int .i64 k, .int .i64 z, .slice A q c] 30)
    have hEa := ext_alloc (ext_refl w7) (.cells #[.int .i64 k, .int .i64 z, .slice A q c] 30)
    refine (one_any 4 _ 1 1 _).mono ?_
    rintro e x1 ⟨rfl, hx1⟩
    have HPS := Lib.hid (PV_wrap 4 0 (PV_ext HP7.out (ext_trans hEa hx1)) ((ext_block hx1 (block_lt hBa)).trans hBa))
    have HXx1 := Lib.hid (ext_trans hEa hx1)
    clear hEa hBa hx1
    go_wp2_with fail
    refine (compile_yes (.node 4 0 [t]) _ _ HPS.out (chk_loop 4 (.inl rfl) HFB.out (by omega) (by omega)).1).mono ?_
    rintro e x2 ⟨m1, rfl, hM, hx2⟩
    have HNm1 := Lib.hid hM
    have HYx2 := Lib.hid hx2
    clear hM hx2
    have hX := ext_trans HXx1.out HYx2.out
    replace HE7 := Lib.hid (ext_trans HE7.out hX)
    replace HB7 := Lib.hid ((ext_block hX (block_lt HB7.out)).trans HB7.out)
    replace HP7 := Lib.hid (PV_ext HP7.out hX)
    replace HZB := Lib.hid (rdY_ext HZB.out hX)
    clear hX
    have Hm1 := HNm1
    clear HNm1
    have c0' : x2.cell? ⟨p6, 0, none⟩ = some (.int .i64 k) := block_cell HB7.out 0
    have c1' : x2.cell? ⟨p6, 1, none⟩ = some (.int .i64 z) := block_cell HB7.out 1
    have c2' : x2.cell? ⟨p6, 2, none⟩ = some (.slice A q c) := block_cell HB7.out 2
    have l7 := block_lt HB7.out
    go_wp2_with fail
    clear c0' c1' c2' l7
    have hBa := heap_alloc_new x2 (.cells #[.int .i64 k, .int .i64 z, .slice A q c] 30)
    have hEa := ext_alloc (ext_refl x2) (.cells #[.int .i64 k, .int .i64 z, .slice A q c] 30)
    refine (one_any 5 _ 1 1 _).mono ?_
    rintro e x3 ⟨rfl, hx3⟩
    have HPA := Lib.hid (PV_wrap 5 0 (PV_ext HP7.out (ext_trans hEa hx3)) ((ext_block hx3 (block_lt hBa)).trans hBa))
    have HXx3 := Lib.hid (ext_trans hEa hx3)
    clear hEa hBa hx3
    obtain ⟨g1, hg1⟩ : ∃ g, g = x2.heap.size := ⟨_, rfl⟩
    rw [← hg1] at HPA ⊢
    clear hg1
    go_wp2_with fail
    have hBa := heap_alloc_new x3 (.cells #[.int .i64 5, .int .i64 0, .slice (some ⟨g1, 0, none⟩) 1 1] 30)
    have hEa := ext_alloc (ext_refl x3) (.cells #[.int .i64 5, .int .i64 0, .slice (some ⟨g1, 0, none⟩) 1 1] 30)
    refine (one_any 6 _ 1 1 _).mono ?_
    rintro e x4 ⟨rfl, hx4⟩
    have HPB := Lib.hid (PV_wrap 6 0 (PV_ext HPA.out (ext_trans hEa hx4)) ((ext_block hx4 (block_lt hBa)).trans hBa))
    have HXx4 := Lib.hid (ext_trans hEa hx4)
    clear hEa hBa hx4
    have hc5 := chk_loop (p := t) 5 (.inr (.inl rfl)) HFB.out (by omega) (by omega)
    go_wp2_with fail
    refine (compile_yes (.node 6 0 [.node 5 0 [t]]) _ _ HPB.out (chk_loop 6 (.inr (.inr rfl)) hc5.2.1 (by rw [hc5.2.2.1]; omega) (by rw [hc5.2.2.2]; omega)).1).mono ?_
    rintro e x5 ⟨m2, rfl, hM, hx5⟩
    have HNm2 := Lib.hid hM
    have HYx5 := Lib.hid hx5
    clear hM hx5
    have hX := ext_trans (ext_trans HXx3.out HXx4.out) HYx5.out
    replace HE7 := Lib.hid (ext_trans HE7.out hX)
    replace HB7 := Lib.hid ((ext_block hX (block_lt HB7.out)).trans HB7.out)
    replace HP7 := Lib.hid (PV_ext HP7.out hX)
    replace HZB := Lib.hid (rdY_ext HZB.out hX)
    replace Hm1 := Lib.hid (machT_ext Hm1.out hX)
    clear hX
    have Hm2 := HNm2
    clear HNm2
    clear hc5
    have c0' : x5.cell? ⟨p6, 0, none⟩ = some (.int .i64 k) := block_cell HB7.out 0
    have c1' : x5.cell? ⟨p6, 1, none⟩ = some (.int .i64 z) := block_cell HB7.out 1
    have c2' : x5.cell? ⟨p6, 2, none⟩ = some (.slice A q c) := block_cell HB7.out 2
    have l7 := block_lt HB7.out
    go_wp2_with fail
    clear c0' c1' c2' l7
    have hBa := heap_alloc_new x5 (.cells #[.int .i64 k, .int .i64 z, .slice A q c] 30)
    have hEa := ext_alloc (ext_refl x5) (.cells #[.int .i64 k, .int .i64 z, .slice A q c] 30)
    refine (one_any 5 _ 1 1 _).mono ?_
    rintro e x6 ⟨rfl, hx6⟩
    have HPC := Lib.hid (PV_wrap 5 0 (PV_ext HP7.out (ext_trans hEa hx6)) ((ext_block hx6 (block_lt hBa)).trans hBa))
    have HXx6 := Lib.hid (ext_trans hEa hx6)
    clear hEa hBa hx6
    go_wp2_with fail
    refine (compile_yes (.node 5 0 [t]) _ _ HPC.out (chk_loop 5 (.inr (.inl rfl)) HFB.out (by omega) (by omega)).1).mono ?_
    rintro e x7 ⟨m3, rfl, hM, hx7⟩
    have HNm3 := Lib.hid hM
    have HYx7 := Lib.hid hx7
    clear hM hx7
    have hX := ext_trans HXx6.out HYx7.out
    replace HE7 := Lib.hid (ext_trans HE7.out hX)
    replace HB7 := Lib.hid ((ext_block hX (block_lt HB7.out)).trans HB7.out)
    replace HP7 := Lib.hid (PV_ext HP7.out hX)
    replace HZB := Lib.hid (rdY_ext HZB.out hX)
    replace Hm1 := Lib.hid (machT_ext Hm1.out hX)
    replace Hm2 := Lib.hid (machT_ext Hm2.out hX)
    clear hX
    have Hm3 := HNm3
    clear HNm3
    have c0' : x7.cell? ⟨p6, 0, none⟩ = some (.int .i64 k) := block_cell HB7.out 0
    have c1' : x7.cell? ⟨p6, 1, none⟩ = some (.int .i64 z) := block_cell HB7.out 1
    have c2' : x7.cell? ⟨p6, 2, none⟩ = some (.slice A q c) := block_cell HB7.out 2
    have l7 := block_lt HB7.out
    have hgc := cell_grown
    go_wp2_with fail
    obtain ⟨wz, hwz⟩ : ∃ wz, wz = x7 := ⟨_, rfl⟩
    have b1 : ∀ pw : UW (fun _ => False) x7, pw.val.cell? ⟨p6, 0, none⟩ = some (.int .i64 k) := uw_cell c0' (fun h => h)
    have b2 : ∀ pw : UW (fun _ => False) x7, pw.val.cell? ⟨p6, 1, none⟩ = some (.int .i64 z) := uw_cell c1' (fun h => h)
    have b3 : ∀ pw : UW (fun _ => False) x7, pw.val.cell? ⟨p6, 2, none⟩ = some (.slice A q c) := uw_cell c2' (fun h => h)
    clear c0' c1' c2' l7 hgc hwz
    refine wp_region_chain (fp := fun _ => False) [] [0, 1, 2, 3] [(4, S4 k z A q c), (5, S5 t), (6, S6 t k z A q c), (7, S7 t), (8, S8 t)] 9 (S8 t) [10, 11, 12, 13] [4, 5, 6, 7, 8, 9] rfl (by kernel_rfl) (by kernel_rfl) (by kernel_rfl) (fun _ _ d _ _ h => by cases d <;> exact h) ?_
    refine wpPre_nil ?_
    repeat (refine wpU_step rfl (fun K hK => ?_); (try simp only [Oper.quietAt, Oper.quietUpon]); go_simp; (refine hK _ ?_; clear hK K))
    refine wpU_nil ?_
    refine wpGen_step rfl rfl s4_ext (fun w6 hE6 hS6 => ?_) (fun v4 => ?_)
    · simp only [runsAt]
      go_simp
      exact ⟨ext_alloc (ext_refl _) _, _, rfl, heap_alloc_new w6 _⟩
    refine wpGen_step rfl rfl s5_ext (fun w6 hE6 hS6 => ?_) (fun v5 => ?_)
    · obtain ⟨g, rfl, hg⟩ := hS6 _ (List.mem_cons_self ..) (by kernel_rfl)
      simp only [runsAt]
      go_simp
      refine (one_any 4 _ 1 1 _).mono ?_
      rintro e w7' ⟨rfl, h7⟩
      exact ⟨_, rfl, h7, g, rfl, PV_ext (PV_wrap 4 0 (PV_ext HP7.out hE6) hg) h7⟩
    refine wpGen_step rfl rfl s6_ext (fun w6 hE6 hS6 => ?_) (fun v6 => ?_)
    · obtain ⟨g, rfl, hg⟩ := hS6 _ (List.mem_cons_self ..) (by kernel_rfl)
      simp only [runsAt]
      go_simp
      exact ⟨ext_alloc (ext_refl _) _, g, _, rfl, heap_alloc_new w6 _, PV_ext hg (ext_alloc (ext_refl _) _)⟩
    refine wpGen_step rfl rfl s7_ext (fun w6 hE6 hS6 => ?_) (fun v7 => ?_)
    · obtain ⟨g, h, rfl, hh, hg⟩ := hS6 _ (List.mem_cons_self ..) (by kernel_rfl)
      simp only [runsAt]
      go_simp
      refine (one_any 2 _ 2 2 _).mono ?_
      rintro e w7' ⟨rfl, h7⟩
      exact ⟨_, rfl, h7, h, rfl, PV_ext (PV_pair 2 0 (PV_ext HP7.out hE6) hg hh) h7⟩
    refine wpGen_step rfl rfl s8_ext (fun w6 hE6 hS6 => ?_) (fun v8 => ?_)
    · obtain ⟨h, rfl, hp⟩ := hS6 _ (List.mem_cons_self ..) (by kernel_rfl)
      simp only [runsAt]
      go_simp
      have hc4 := chk_loop (p := t) 4 (.inl rfl) HFB.out (by omega) (by omega)
      refine (compile_yes (.node 2 0 [t, .node 4 0 [t]]) _ w6 hp (chk_pair 2 (.inl rfl) HFB.out (by omega) (by omega) hc4.2.1 (by rw [hc4.2.2.1]; omega) (by rw [hc4.2.2.2]; omega))).mono ?_
      rintro e w7' ⟨m4, rfl, hM, h7⟩
      exact ⟨_, rfl, h7, m4, w6, rfl, hM⟩
    refine wpGen_nil ?_
    refine ⟨⟨_, rfl, rfl, fun v a b hE hR => s8_ext v a b hE hR⟩, fun w6 hE6 hS6 o ho => ?_, fun o ho v w6 hU6 hR6 => ?_⟩
    · cases ho
      simp only [runsAt]
      go_simp
      exact ⟨upd_refl, hS6 _ (List.mem_cons_self ..)⟩
    · cases ho
      obtain ⟨m4, W4, rfl, hM4⟩ := hR6
      have Hm4 := Lib.hid hM4
      have HU6 := Lib.hid (ext_of_upd hU6)
      clear b1 b2 b3 hM4 hU6
      refine wpAny_two (i := 10) (j := 11) (by kernel_rfl) rfl rfl ?_ ?_
      · go_wp2_with fail
        refine wpAny_two (i := 11) (j := 12) (by kernel_rfl) rfl rfl ?_ ?_
        · go_wp2_with fail
          refine wpAny_one (i := 12) (by kernel_rfl) rfl ?_
          go_wp2_with fail
          refine wpAny_one (i := 13) (by kernel_rfl) rfl ?_
          go_wp2_with fail
          refine wpAny_end (by kernel_rfl) ?_
          replace Hm1 := Lib.hid (machT_ext Hm1.out HU6.out)
          replace Hm2 := Lib.hid (machT_ext Hm2.out HU6.out)
          replace Hm3 := Lib.hid (machT_ext Hm3.out HU6.out)
          replace HZB := Lib.hid (rdY_ext HZB.out HU6.out)
          replace HE7 := Lib.hid (ext_trans HE7.out HU6.out)
          clear HU6
          cases hpv : tk (.node 5 0 [t]) U with
          | true =>
            have hsv : tk (.node 4 0 [t]) U = true := plus_star hpv
            have HSV := Lib.hid hsv
            have HPV := Lib.hid hpv
            clear hsv hpv
            go_wp2_with fail
            refine (mtakes_any _ _ m1 (.node 4 0 [t]) _ [] Hm1.out (rdY_nil _) (by simp)).mono ?_
            rintro e y1 ⟨rfl, hy⟩
            rw [star_nil]
            have hX := hy
            replace Hm1 := Lib.hid (machT_ext Hm1.out hX)
            replace Hm2 := Lib.hid (machT_ext Hm2.out hX)
            replace Hm3 := Lib.hid (machT_ext Hm3.out hX)
            replace Hm4 := Lib.hid (machT_ext Hm4.out hX)
            replace HZB := Lib.hid (rdY_ext HZB.out hX)
            replace HE7 := Lib.hid (ext_trans HE7.out hX)
            clear hX
            clear hy
            go_wp2_with fail
            refine (mtakes_any _ _ m1 (.node 4 0 [t]) vb U Hm1.out HZB.out (by omega)).mono ?_
            rintro e y2 ⟨rfl, hy⟩
            rw [HSV.out]
            have hX := hy
            replace Hm1 := Lib.hid (machT_ext Hm1.out hX)
            replace Hm2 := Lib.hid (machT_ext Hm2.out hX)
            replace Hm3 := Lib.hid (machT_ext Hm3.out hX)
            replace Hm4 := Lib.hid (machT_ext Hm4.out hX)
            replace HZB := Lib.hid (rdY_ext HZB.out hX)
            replace HE7 := Lib.hid (ext_trans HE7.out hX)
            clear hX
            clear hy
            go_wp2_with fail
            refine (mtakes_any _ _ m2 (.node 6 0 [.node 5 0 [t]]) vb U Hm2.out HZB.out (by omega)).mono ?_
            rintro e y3 ⟨rfl, hy⟩
            rw [star_again, HSV.out]
            have hX := hy
            replace Hm1 := Lib.hid (machT_ext Hm1.out hX)
            replace Hm2 := Lib.hid (machT_ext Hm2.out hX)
            replace Hm3 := Lib.hid (machT_ext Hm3.out hX)
            replace Hm4 := Lib.hid (machT_ext Hm4.out hX)
            replace HZB := Lib.hid (rdY_ext HZB.out hX)
            replace HE7 := Lib.hid (ext_trans HE7.out hX)
            clear hX
            clear hy
            go_wp2_with fail
            refine (mtakes_any _ _ m3 (.node 5 0 [t]) vb U Hm3.out HZB.out (by omega)).mono ?_
            rintro e y4 ⟨rfl, hy⟩
            rw [HPV.out]
            have hX := hy
            replace Hm1 := Lib.hid (machT_ext Hm1.out hX)
            replace Hm2 := Lib.hid (machT_ext Hm2.out hX)
            replace Hm3 := Lib.hid (machT_ext Hm3.out hX)
            replace Hm4 := Lib.hid (machT_ext Hm4.out hX)
            replace HZB := Lib.hid (rdY_ext HZB.out hX)
            replace HE7 := Lib.hid (ext_trans HE7.out hX)
            clear hX
            clear hy
            go_wp2_with fail
            refine (mtakes_any _ _ m4 (.node 2 0 [t, .node 4 0 [t]]) vb U Hm4.out HZB.out (by omega)).mono ?_
            rintro e y5 ⟨rfl, hy⟩
            rw [plus_both, HPV.out]
            have hX := hy
            replace Hm1 := Lib.hid (machT_ext Hm1.out hX)
            replace Hm2 := Lib.hid (machT_ext Hm2.out hX)
            replace Hm3 := Lib.hid (machT_ext Hm3.out hX)
            replace Hm4 := Lib.hid (machT_ext Hm4.out hX)
            replace HZB := Lib.hid (rdY_ext HZB.out hX)
            replace HE7 := Lib.hid (ext_trans HE7.out hX)
            clear hX
            clear hy
            go_wp2_with fail
            refine (mtakes_any _ _ m3 (.node 5 0 [t]) vb U Hm3.out HZB.out (by omega)).mono ?_
            rintro e y6 ⟨rfl, hy⟩
            rw [HPV.out]
            have hX := hy
            replace Hm1 := Lib.hid (machT_ext Hm1.out hX)
            replace Hm2 := Lib.hid (machT_ext Hm2.out hX)
            replace Hm3 := Lib.hid (machT_ext Hm3.out hX)
            replace Hm4 := Lib.hid (machT_ext Hm4.out hX)
            replace HZB := Lib.hid (rdY_ext HZB.out hX)
            replace HE7 := Lib.hid (ext_trans HE7.out hX)
            clear hX
            clear hy
            go_wp2_with fail
            refine (mtakes_any _ _ m1 (.node 4 0 [t]) vb U Hm1.out HZB.out (by omega)).mono ?_
            rintro e y7 ⟨rfl, hy⟩
            rw [HSV.out]
            have hX := hy
            replace Hm1 := Lib.hid (machT_ext Hm1.out hX)
            replace Hm2 := Lib.hid (machT_ext Hm2.out hX)
            replace Hm3 := Lib.hid (machT_ext Hm3.out hX)
            replace Hm4 := Lib.hid (machT_ext Hm4.out hX)
            replace HZB := Lib.hid (rdY_ext HZB.out hX)
            replace HE7 := Lib.hid (ext_trans HE7.out hX)
            clear hX
            clear hy
            go_wp2
            refine bodyPost_ret (results_tmp rfl _ _ _) rfl ?_
            exact ⟨rfl, ext_trans HE4.out HE7.out⟩
          | false =>
            have HPV := Lib.hid hpv
            obtain ⟨sv, hsv⟩ : ∃ b, tk (.node 4 0 [t]) U = b := ⟨_, rfl⟩
            have HSV := Lib.hid hsv
            have hbb := beq_self sv
            clear hsv hpv
            go_wp2_with fail
            refine (mtakes_any _ _ m1 (.node 4 0 [t]) _ [] Hm1.out (rdY_nil _) (by simp)).mono ?_
            rintro e y1 ⟨rfl, hy⟩
            rw [star_nil]
            have hX := hy
            replace Hm1 := Lib.hid (machT_ext Hm1.out hX)
            replace Hm2 := Lib.hid (machT_ext Hm2.out hX)
            replace Hm3 := Lib.hid (machT_ext Hm3.out hX)
            replace Hm4 := Lib.hid (machT_ext Hm4.out hX)
            replace HZB := Lib.hid (rdY_ext HZB.out hX)
            replace HE7 := Lib.hid (ext_trans HE7.out hX)
            clear hX
            clear hy
            go_wp2_with fail
            refine (mtakes_any _ _ m1 (.node 4 0 [t]) vb U Hm1.out HZB.out (by omega)).mono ?_
            rintro e y2 ⟨rfl, hy⟩
            rw [HSV.out]
            have hX := hy
            replace Hm1 := Lib.hid (machT_ext Hm1.out hX)
            replace Hm2 := Lib.hid (machT_ext Hm2.out hX)
            replace Hm3 := Lib.hid (machT_ext Hm3.out hX)
            replace Hm4 := Lib.hid (machT_ext Hm4.out hX)
            replace HZB := Lib.hid (rdY_ext HZB.out hX)
            replace HE7 := Lib.hid (ext_trans HE7.out hX)
            clear hX
            clear hy
            go_wp2_with fail
            refine (mtakes_any _ _ m2 (.node 6 0 [.node 5 0 [t]]) vb U Hm2.out HZB.out (by omega)).mono ?_
            rintro e y3 ⟨rfl, hy⟩
            rw [star_again, HSV.out]
            have hX := hy
            replace Hm1 := Lib.hid (machT_ext Hm1.out hX)
            replace Hm2 := Lib.hid (machT_ext Hm2.out hX)
            replace Hm3 := Lib.hid (machT_ext Hm3.out hX)
            replace Hm4 := Lib.hid (machT_ext Hm4.out hX)
            replace HZB := Lib.hid (rdY_ext HZB.out hX)
            replace HE7 := Lib.hid (ext_trans HE7.out hX)
            clear hX
            clear hy
            go_wp2_with fail
            refine (mtakes_any _ _ m3 (.node 5 0 [t]) vb U Hm3.out HZB.out (by omega)).mono ?_
            rintro e y4 ⟨rfl, hy⟩
            rw [HPV.out]
            have hX := hy
            replace Hm1 := Lib.hid (machT_ext Hm1.out hX)
            replace Hm2 := Lib.hid (machT_ext Hm2.out hX)
            replace Hm3 := Lib.hid (machT_ext Hm3.out hX)
            replace Hm4 := Lib.hid (machT_ext Hm4.out hX)
            replace HZB := Lib.hid (rdY_ext HZB.out hX)
            replace HE7 := Lib.hid (ext_trans HE7.out hX)
            clear hX
            clear hy
            go_wp2_with fail
            refine (mtakes_any _ _ m4 (.node 2 0 [t, .node 4 0 [t]]) vb U Hm4.out HZB.out (by omega)).mono ?_
            rintro e y5 ⟨rfl, hy⟩
            rw [plus_both, HPV.out]
            have hX := hy
            replace Hm1 := Lib.hid (machT_ext Hm1.out hX)
            replace Hm2 := Lib.hid (machT_ext Hm2.out hX)
            replace Hm3 := Lib.hid (machT_ext Hm3.out hX)
            replace Hm4 := Lib.hid (machT_ext Hm4.out hX)
            replace HZB := Lib.hid (rdY_ext HZB.out hX)
            replace HE7 := Lib.hid (ext_trans HE7.out hX)
            clear hX
            clear hy
            go_wp2_with fail
            refine (mtakes_any _ _ m3 (.node 5 0 [t]) vb U Hm3.out HZB.out (by omega)).mono ?_
            rintro e y6 ⟨rfl, hy⟩
            rw [HPV.out]
            have hX := hy
            replace Hm1 := Lib.hid (machT_ext Hm1.out hX)
            replace Hm2 := Lib.hid (machT_ext Hm2.out hX)
            replace Hm3 := Lib.hid (machT_ext Hm3.out hX)
            replace Hm4 := Lib.hid (machT_ext Hm4.out hX)
            replace HZB := Lib.hid (rdY_ext HZB.out hX)
            replace HE7 := Lib.hid (ext_trans HE7.out hX)
            clear hX
            clear hy
            go_wp2
            refine bodyPost_ret (results_tmp rfl _ _ _) rfl ?_
            exact ⟨rfl, ext_trans HE4.out HE7.out⟩
        · go_wp2_with fail
          refine wpAny_one (i := 11) (by kernel_rfl) rfl ?_
          go_wp2_with fail
          refine wpAny_one (i := 13) (by kernel_rfl) rfl ?_
          go_wp2_with fail
          refine wpAny_end (by kernel_rfl) ?_
          replace Hm1 := Lib.hid (machT_ext Hm1.out HU6.out)
          replace Hm2 := Lib.hid (machT_ext Hm2.out HU6.out)
          replace Hm3 := Lib.hid (machT_ext Hm3.out HU6.out)
          replace HZB := Lib.hid (rdY_ext HZB.out HU6.out)
          replace HE7 := Lib.hid (ext_trans HE7.out HU6.out)
          clear HU6
          cases hpv : tk (.node 5 0 [t]) U with
          | true =>
            have hsv : tk (.node 4 0 [t]) U = true := plus_star hpv
            have HSV := Lib.hid hsv
            have HPV := Lib.hid hpv
            clear hsv hpv
            go_wp2_with fail
            refine (mtakes_any _ _ m1 (.node 4 0 [t]) _ [] Hm1.out (rdY_nil _) (by simp)).mono ?_
            rintro e y1 ⟨rfl, hy⟩
            rw [star_nil]
            have hX := hy
            replace Hm1 := Lib.hid (machT_ext Hm1.out hX)
            replace Hm2 := Lib.hid (machT_ext Hm2.out hX)
            replace Hm3 := Lib.hid (machT_ext Hm3.out hX)
            replace Hm4 := Lib.hid (machT_ext Hm4.out hX)
            replace HZB := Lib.hid (rdY_ext HZB.out hX)
            replace HE7 := Lib.hid (ext_trans HE7.out hX)
            clear hX
            clear hy
            go_wp2_with fail
            refine (mtakes_any _ _ m1 (.node 4 0 [t]) vb U Hm1.out HZB.out (by omega)).mono ?_
            rintro e y2 ⟨rfl, hy⟩
            rw [HSV.out]
            have hX := hy
            replace Hm1 := Lib.hid (machT_ext Hm1.out hX)
            replace Hm2 := Lib.hid (machT_ext Hm2.out hX)
            replace Hm3 := Lib.hid (machT_ext Hm3.out hX)
            replace Hm4 := Lib.hid (machT_ext Hm4.out hX)
            replace HZB := Lib.hid (rdY_ext HZB.out hX)
            replace HE7 := Lib.hid (ext_trans HE7.out hX)
            clear hX
            clear hy
            go_wp2_with fail
            refine (mtakes_any _ _ m2 (.node 6 0 [.node 5 0 [t]]) vb U Hm2.out HZB.out (by omega)).mono ?_
            rintro e y3 ⟨rfl, hy⟩
            rw [star_again, HSV.out]
            have hX := hy
            replace Hm1 := Lib.hid (machT_ext Hm1.out hX)
            replace Hm2 := Lib.hid (machT_ext Hm2.out hX)
            replace Hm3 := Lib.hid (machT_ext Hm3.out hX)
            replace Hm4 := Lib.hid (machT_ext Hm4.out hX)
            replace HZB := Lib.hid (rdY_ext HZB.out hX)
            replace HE7 := Lib.hid (ext_trans HE7.out hX)
            clear hX
            clear hy
            go_wp2_with fail
            refine (mtakes_any _ _ m3 (.node 5 0 [t]) vb U Hm3.out HZB.out (by omega)).mono ?_
            rintro e y4 ⟨rfl, hy⟩
            rw [HPV.out]
            have hX := hy
            replace Hm1 := Lib.hid (machT_ext Hm1.out hX)
            replace Hm2 := Lib.hid (machT_ext Hm2.out hX)
            replace Hm3 := Lib.hid (machT_ext Hm3.out hX)
            replace Hm4 := Lib.hid (machT_ext Hm4.out hX)
            replace HZB := Lib.hid (rdY_ext HZB.out hX)
            replace HE7 := Lib.hid (ext_trans HE7.out hX)
            clear hX
            clear hy
            go_wp2_with fail
            refine (mtakes_any _ _ m4 (.node 2 0 [t, .node 4 0 [t]]) vb U Hm4.out HZB.out (by omega)).mono ?_
            rintro e y5 ⟨rfl, hy⟩
            rw [plus_both, HPV.out]
            have hX := hy
            replace Hm1 := Lib.hid (machT_ext Hm1.out hX)
            replace Hm2 := Lib.hid (machT_ext Hm2.out hX)
            replace Hm3 := Lib.hid (machT_ext Hm3.out hX)
            replace Hm4 := Lib.hid (machT_ext Hm4.out hX)
            replace HZB := Lib.hid (rdY_ext HZB.out hX)
            replace HE7 := Lib.hid (ext_trans HE7.out hX)
            clear hX
            clear hy
            go_wp2_with fail
            refine (mtakes_any _ _ m3 (.node 5 0 [t]) vb U Hm3.out HZB.out (by omega)).mono ?_
            rintro e y6 ⟨rfl, hy⟩
            rw [HPV.out]
            have hX := hy
            replace Hm1 := Lib.hid (machT_ext Hm1.out hX)
            replace Hm2 := Lib.hid (machT_ext Hm2.out hX)
            replace Hm3 := Lib.hid (machT_ext Hm3.out hX)
            replace Hm4 := Lib.hid (machT_ext Hm4.out hX)
            replace HZB := Lib.hid (rdY_ext HZB.out hX)
            replace HE7 := Lib.hid (ext_trans HE7.out hX)
            clear hX
            clear hy
            go_wp2_with fail
            refine (mtakes_any _ _ m1 (.node 4 0 [t]) vb U Hm1.out HZB.out (by omega)).mono ?_
            rintro e y7 ⟨rfl, hy⟩
            rw [HSV.out]
            have hX := hy
            replace Hm1 := Lib.hid (machT_ext Hm1.out hX)
            replace Hm2 := Lib.hid (machT_ext Hm2.out hX)
            replace Hm3 := Lib.hid (machT_ext Hm3.out hX)
            replace Hm4 := Lib.hid (machT_ext Hm4.out hX)
            replace HZB := Lib.hid (rdY_ext HZB.out hX)
            replace HE7 := Lib.hid (ext_trans HE7.out hX)
            clear hX
            clear hy
            go_wp2
            refine bodyPost_ret (results_tmp rfl _ _ _) rfl ?_
            exact ⟨rfl, ext_trans HE4.out HE7.out⟩
          | false =>
            have HPV := Lib.hid hpv
            obtain ⟨sv, hsv⟩ : ∃ b, tk (.node 4 0 [t]) U = b := ⟨_, rfl⟩
            have HSV := Lib.hid hsv
            have hbb := beq_self sv
            clear hsv hpv
            go_wp2_with fail
            refine (mtakes_any _ _ m1 (.node 4 0 [t]) _ [] Hm1.out (rdY_nil _) (by simp)).mono ?_
            rintro e y1 ⟨rfl, hy⟩
            rw [star_nil]
            have hX := hy
            replace Hm1 := Lib.hid (machT_ext Hm1.out hX)
            replace Hm2 := Lib.hid (machT_ext Hm2.out hX)
            replace Hm3 := Lib.hid (machT_ext Hm3.out hX)
            replace Hm4 := Lib.hid (machT_ext Hm4.out hX)
            replace HZB := Lib.hid (rdY_ext HZB.out hX)
            replace HE7 := Lib.hid (ext_trans HE7.out hX)
            clear hX
            clear hy
            go_wp2_with fail
            refine (mtakes_any _ _ m1 (.node 4 0 [t]) vb U Hm1.out HZB.out (by omega)).mono ?_
            rintro e y2 ⟨rfl, hy⟩
            rw [HSV.out]
            have hX := hy
            replace Hm1 := Lib.hid (machT_ext Hm1.out hX)
            replace Hm2 := Lib.hid (machT_ext Hm2.out hX)
            replace Hm3 := Lib.hid (machT_ext Hm3.out hX)
            replace Hm4 := Lib.hid (machT_ext Hm4.out hX)
            replace HZB := Lib.hid (rdY_ext HZB.out hX)
            replace HE7 := Lib.hid (ext_trans HE7.out hX)
            clear hX
            clear hy
            go_wp2_with fail
            refine (mtakes_any _ _ m2 (.node 6 0 [.node 5 0 [t]]) vb U Hm2.out HZB.out (by omega)).mono ?_
            rintro e y3 ⟨rfl, hy⟩
            rw [star_again, HSV.out]
            have hX := hy
            replace Hm1 := Lib.hid (machT_ext Hm1.out hX)
            replace Hm2 := Lib.hid (machT_ext Hm2.out hX)
            replace Hm3 := Lib.hid (machT_ext Hm3.out hX)
            replace Hm4 := Lib.hid (machT_ext Hm4.out hX)
            replace HZB := Lib.hid (rdY_ext HZB.out hX)
            replace HE7 := Lib.hid (ext_trans HE7.out hX)
            clear hX
            clear hy
            go_wp2_with fail
            refine (mtakes_any _ _ m3 (.node 5 0 [t]) vb U Hm3.out HZB.out (by omega)).mono ?_
            rintro e y4 ⟨rfl, hy⟩
            rw [HPV.out]
            have hX := hy
            replace Hm1 := Lib.hid (machT_ext Hm1.out hX)
            replace Hm2 := Lib.hid (machT_ext Hm2.out hX)
            replace Hm3 := Lib.hid (machT_ext Hm3.out hX)
            replace Hm4 := Lib.hid (machT_ext Hm4.out hX)
            replace HZB := Lib.hid (rdY_ext HZB.out hX)
            replace HE7 := Lib.hid (ext_trans HE7.out hX)
            clear hX
            clear hy
            go_wp2_with fail
            refine (mtakes_any _ _ m4 (.node 2 0 [t, .node 4 0 [t]]) vb U Hm4.out HZB.out (by omega)).mono ?_
            rintro e y5 ⟨rfl, hy⟩
            rw [plus_both, HPV.out]
            have hX := hy
            replace Hm1 := Lib.hid (machT_ext Hm1.out hX)
            replace Hm2 := Lib.hid (machT_ext Hm2.out hX)
            replace Hm3 := Lib.hid (machT_ext Hm3.out hX)
            replace Hm4 := Lib.hid (machT_ext Hm4.out hX)
            replace HZB := Lib.hid (rdY_ext HZB.out hX)
            replace HE7 := Lib.hid (ext_trans HE7.out hX)
            clear hX
            clear hy
            go_wp2_with fail
            refine (mtakes_any _ _ m3 (.node 5 0 [t]) vb U Hm3.out HZB.out (by omega)).mono ?_
            rintro e y6 ⟨rfl, hy⟩
            rw [HPV.out]
            have hX := hy
            replace Hm1 := Lib.hid (machT_ext Hm1.out hX)
            replace Hm2 := Lib.hid (machT_ext Hm2.out hX)
            replace Hm3 := Lib.hid (machT_ext Hm3.out hX)
            replace Hm4 := Lib.hid (machT_ext Hm4.out hX)
            replace HZB := Lib.hid (rdY_ext HZB.out hX)
            replace HE7 := Lib.hid (ext_trans HE7.out hX)
            clear hX
            clear hy
            go_wp2
            refine bodyPost_ret (results_tmp rfl _ _ _) rfl ?_
            exact ⟨rfl, ext_trans HE4.out HE7.out⟩
      · go_wp2_with fail
        refine wpAny_one (i := 10) (by kernel_rfl) rfl ?_
        go_wp2_with fail
        refine wpAny_one (i := 12) (by kernel_rfl) rfl ?_
        go_wp2_with fail
        refine wpAny_one (i := 13) (by kernel_rfl) rfl ?_
        go_wp2_with fail
        refine wpAny_end (by kernel_rfl) ?_
        replace Hm1 := Lib.hid (machT_ext Hm1.out HU6.out)
        replace Hm2 := Lib.hid (machT_ext Hm2.out HU6.out)
        replace Hm3 := Lib.hid (machT_ext Hm3.out HU6.out)
        replace HZB := Lib.hid (rdY_ext HZB.out HU6.out)
        replace HE7 := Lib.hid (ext_trans HE7.out HU6.out)
        clear HU6
        cases hpv : tk (.node 5 0 [t]) U with
        | true =>
          have hsv : tk (.node 4 0 [t]) U = true := plus_star hpv
          have HSV := Lib.hid hsv
          have HPV := Lib.hid hpv
          clear hsv hpv
          go_wp2_with fail
          refine (mtakes_any _ _ m1 (.node 4 0 [t]) _ [] Hm1.out (rdY_nil _) (by simp)).mono ?_
          rintro e y1 ⟨rfl, hy⟩
          rw [star_nil]
          have hX := hy
          replace Hm1 := Lib.hid (machT_ext Hm1.out hX)
          replace Hm2 := Lib.hid (machT_ext Hm2.out hX)
          replace Hm3 := Lib.hid (machT_ext Hm3.out hX)
          replace Hm4 := Lib.hid (machT_ext Hm4.out hX)
          replace HZB := Lib.hid (rdY_ext HZB.out hX)
          replace HE7 := Lib.hid (ext_trans HE7.out hX)
          clear hX
          clear hy
          go_wp2_with fail
          refine (mtakes_any _ _ m1 (.node 4 0 [t]) vb U Hm1.out HZB.out (by omega)).mono ?_
          rintro e y2 ⟨rfl, hy⟩
          rw [HSV.out]
          have hX := hy
          replace Hm1 := Lib.hid (machT_ext Hm1.out hX)
          replace Hm2 := Lib.hid (machT_ext Hm2.out hX)
          replace Hm3 := Lib.hid (machT_ext Hm3.out hX)
          replace Hm4 := Lib.hid (machT_ext Hm4.out hX)
          replace HZB := Lib.hid (rdY_ext HZB.out hX)
          replace HE7 := Lib.hid (ext_trans HE7.out hX)
          clear hX
          clear hy
          go_wp2_with fail
          refine (mtakes_any _ _ m2 (.node 6 0 [.node 5 0 [t]]) vb U Hm2.out HZB.out (by omega)).mono ?_
          rintro e y3 ⟨rfl, hy⟩
          rw [star_again, HSV.out]
          have hX := hy
          replace Hm1 := Lib.hid (machT_ext Hm1.out hX)
          replace Hm2 := Lib.hid (machT_ext Hm2.out hX)
          replace Hm3 := Lib.hid (machT_ext Hm3.out hX)
          replace Hm4 := Lib.hid (machT_ext Hm4.out hX)
          replace HZB := Lib.hid (rdY_ext HZB.out hX)
          replace HE7 := Lib.hid (ext_trans HE7.out hX)
          clear hX
          clear hy
          go_wp2_with fail
          refine (mtakes_any _ _ m3 (.node 5 0 [t]) vb U Hm3.out HZB.out (by omega)).mono ?_
          rintro e y4 ⟨rfl, hy⟩
          rw [HPV.out]
          have hX := hy
          replace Hm1 := Lib.hid (machT_ext Hm1.out hX)
          replace Hm2 := Lib.hid (machT_ext Hm2.out hX)
          replace Hm3 := Lib.hid (machT_ext Hm3.out hX)
          replace Hm4 := Lib.hid (machT_ext Hm4.out hX)
          replace HZB := Lib.hid (rdY_ext HZB.out hX)
          replace HE7 := Lib.hid (ext_trans HE7.out hX)
          clear hX
          clear hy
          go_wp2_with fail
          refine (mtakes_any _ _ m4 (.node 2 0 [t, .node 4 0 [t]]) vb U Hm4.out HZB.out (by omega)).mono ?_
          rintro e y5 ⟨rfl, hy⟩
          rw [plus_both, HPV.out]
          have hX := hy
          replace Hm1 := Lib.hid (machT_ext Hm1.out hX)
          replace Hm2 := Lib.hid (machT_ext Hm2.out hX)
          replace Hm3 := Lib.hid (machT_ext Hm3.out hX)
          replace Hm4 := Lib.hid (machT_ext Hm4.out hX)
          replace HZB := Lib.hid (rdY_ext HZB.out hX)
          replace HE7 := Lib.hid (ext_trans HE7.out hX)
          clear hX
          clear hy
          go_wp2_with fail
          refine (mtakes_any _ _ m3 (.node 5 0 [t]) vb U Hm3.out HZB.out (by omega)).mono ?_
          rintro e y6 ⟨rfl, hy⟩
          rw [HPV.out]
          have hX := hy
          replace Hm1 := Lib.hid (machT_ext Hm1.out hX)
          replace Hm2 := Lib.hid (machT_ext Hm2.out hX)
          replace Hm3 := Lib.hid (machT_ext Hm3.out hX)
          replace Hm4 := Lib.hid (machT_ext Hm4.out hX)
          replace HZB := Lib.hid (rdY_ext HZB.out hX)
          replace HE7 := Lib.hid (ext_trans HE7.out hX)
          clear hX
          clear hy
          go_wp2_with fail
          refine (mtakes_any _ _ m1 (.node 4 0 [t]) vb U Hm1.out HZB.out (by omega)).mono ?_
          rintro e y7 ⟨rfl, hy⟩
          rw [HSV.out]
          have hX := hy
          replace Hm1 := Lib.hid (machT_ext Hm1.out hX)
          replace Hm2 := Lib.hid (machT_ext Hm2.out hX)
          replace Hm3 := Lib.hid (machT_ext Hm3.out hX)
          replace Hm4 := Lib.hid (machT_ext Hm4.out hX)
          replace HZB := Lib.hid (rdY_ext HZB.out hX)
          replace HE7 := Lib.hid (ext_trans HE7.out hX)
          clear hX
          clear hy
          go_wp2
          refine bodyPost_ret (results_tmp rfl _ _ _) rfl ?_
          exact ⟨rfl, ext_trans HE4.out HE7.out⟩
        | false =>
          have HPV := Lib.hid hpv
          obtain ⟨sv, hsv⟩ : ∃ b, tk (.node 4 0 [t]) U = b := ⟨_, rfl⟩
          have HSV := Lib.hid hsv
          have hbb := beq_self sv
          clear hsv hpv
          go_wp2_with fail
          refine (mtakes_any _ _ m1 (.node 4 0 [t]) _ [] Hm1.out (rdY_nil _) (by simp)).mono ?_
          rintro e y1 ⟨rfl, hy⟩
          rw [star_nil]
          have hX := hy
          replace Hm1 := Lib.hid (machT_ext Hm1.out hX)
          replace Hm2 := Lib.hid (machT_ext Hm2.out hX)
          replace Hm3 := Lib.hid (machT_ext Hm3.out hX)
          replace Hm4 := Lib.hid (machT_ext Hm4.out hX)
          replace HZB := Lib.hid (rdY_ext HZB.out hX)
          replace HE7 := Lib.hid (ext_trans HE7.out hX)
          clear hX
          clear hy
          go_wp2_with fail
          refine (mtakes_any _ _ m1 (.node 4 0 [t]) vb U Hm1.out HZB.out (by omega)).mono ?_
          rintro e y2 ⟨rfl, hy⟩
          rw [HSV.out]
          have hX := hy
          replace Hm1 := Lib.hid (machT_ext Hm1.out hX)
          replace Hm2 := Lib.hid (machT_ext Hm2.out hX)
          replace Hm3 := Lib.hid (machT_ext Hm3.out hX)
          replace Hm4 := Lib.hid (machT_ext Hm4.out hX)
          replace HZB := Lib.hid (rdY_ext HZB.out hX)
          replace HE7 := Lib.hid (ext_trans HE7.out hX)
          clear hX
          clear hy
          go_wp2_with fail
          refine (mtakes_any _ _ m2 (.node 6 0 [.node 5 0 [t]]) vb U Hm2.out HZB.out (by omega)).mono ?_
          rintro e y3 ⟨rfl, hy⟩
          rw [star_again, HSV.out]
          have hX := hy
          replace Hm1 := Lib.hid (machT_ext Hm1.out hX)
          replace Hm2 := Lib.hid (machT_ext Hm2.out hX)
          replace Hm3 := Lib.hid (machT_ext Hm3.out hX)
          replace Hm4 := Lib.hid (machT_ext Hm4.out hX)
          replace HZB := Lib.hid (rdY_ext HZB.out hX)
          replace HE7 := Lib.hid (ext_trans HE7.out hX)
          clear hX
          clear hy
          go_wp2_with fail
          refine (mtakes_any _ _ m3 (.node 5 0 [t]) vb U Hm3.out HZB.out (by omega)).mono ?_
          rintro e y4 ⟨rfl, hy⟩
          rw [HPV.out]
          have hX := hy
          replace Hm1 := Lib.hid (machT_ext Hm1.out hX)
          replace Hm2 := Lib.hid (machT_ext Hm2.out hX)
          replace Hm3 := Lib.hid (machT_ext Hm3.out hX)
          replace Hm4 := Lib.hid (machT_ext Hm4.out hX)
          replace HZB := Lib.hid (rdY_ext HZB.out hX)
          replace HE7 := Lib.hid (ext_trans HE7.out hX)
          clear hX
          clear hy
          go_wp2_with fail
          refine (mtakes_any _ _ m4 (.node 2 0 [t, .node 4 0 [t]]) vb U Hm4.out HZB.out (by omega)).mono ?_
          rintro e y5 ⟨rfl, hy⟩
          rw [plus_both, HPV.out]
          have hX := hy
          replace Hm1 := Lib.hid (machT_ext Hm1.out hX)
          replace Hm2 := Lib.hid (machT_ext Hm2.out hX)
          replace Hm3 := Lib.hid (machT_ext Hm3.out hX)
          replace Hm4 := Lib.hid (machT_ext Hm4.out hX)
          replace HZB := Lib.hid (rdY_ext HZB.out hX)
          replace HE7 := Lib.hid (ext_trans HE7.out hX)
          clear hX
          clear hy
          go_wp2_with fail
          refine (mtakes_any _ _ m3 (.node 5 0 [t]) vb U Hm3.out HZB.out (by omega)).mono ?_
          rintro e y6 ⟨rfl, hy⟩
          rw [HPV.out]
          have hX := hy
          replace Hm1 := Lib.hid (machT_ext Hm1.out hX)
          replace Hm2 := Lib.hid (machT_ext Hm2.out hX)
          replace Hm3 := Lib.hid (machT_ext Hm3.out hX)
          replace Hm4 := Lib.hid (machT_ext Hm4.out hX)
          replace HZB := Lib.hid (rdY_ext HZB.out hX)
          replace HE7 := Lib.hid (ext_trans HE7.out hX)
          clear hX
          clear hy
          go_wp2
          refine bodyPost_ret (results_tmp rfl _ _ _) rfl ?_
          exact ⟨rfl, ext_trans HE4.out HE7.out⟩
  · have h5i : ¬ (5 : Int) < (L.length : Int) := by omega
    have HL5 : Hid (L.length ≤ 5) := Lib.hid (by omega)
    go_wp2_with fail
    refine (fix_any _ L _ HV1.out).mono ?_
    rintro e w2 ⟨L', v', rfl, hr, hF, hl, hE2⟩
    have HR := Lib.hid hr
    have HF := Lib.hid hF
    have HE2 := Lib.hid (ext_trans HE1.out hE2)
    have hl8 : L'.length ≤ 5 := by have := HL5.out; omega
    clear hr hF hE2 hl
    go_wp2_with fail
    refine (tree_fix 5 (by decide) (by decide) v' L' _ HR.out HF.out hl8).mono ?_
    rintro e w3 ⟨rb, n, t, k, z, A, q, c, rfl, hn, hfit, -, hpv, hE3⟩
    obtain ⟨hfb, hsz, hdp⟩ := fit_small hfit (by decide)
    have HFB := Lib.hid hfb
    have HPV := Lib.hid hpv
    have HE3 := Lib.hid (ext_trans HE2.out hE3)
    clear hfit hpv hE3 hfb hl8
    go_wp2_with fail
    have hE4 := ext_alloc (ext_refl w3) (.cells #[.int .i64 k, .int .i64 z, .slice A q c] 30)
    have hB4 := heap_alloc_new w3 (.cells #[.int .i64 k, .int .i64 z, .slice A q c] 30)
    obtain ⟨w4, hw4⟩ : ∃ w4, w4 = w3.alloc (.cells #[.int .i64 k, .int .i64 z, .slice A q c] 30) := ⟨_, rfl⟩
    obtain ⟨p6, hp6⟩ : ∃ p6, p6 = w3.heap.size := ⟨_, rfl⟩
    rw [← hw4] at hE4 hB4 ⊢
    rw [← hp6] at hB4 ⊢
    have HB4 := Lib.hid hB4
    have HE4 := Lib.hid (ext_trans HE3.out hE4)
    have HP4 := Lib.hid (PV_ext HPV.out hE4)
    clear hw4 hp6 hE4 hB4 HPV HE3
    refine (word_any vl B _ (rdB_ext HBY.out HE4.out)).mono ?_
    rintro e w7 ⟨U, va, vb, rfl, hza, hzb, hU5, -, hE7⟩
    have HZB := Lib.hid (rdY_row hzb.1)
    have HE7 := Lib.hid hE7
    have h47 := (ext_block hE7 (block_lt HB4.out)).trans HB4.out
    have c0' : w7.cell? ⟨p6, 0, none⟩ = some (.int .i64 k) := block_cell h47 0
    have c1' : w7.cell? ⟨p6, 1, none⟩ = some (.int .i64 z) := block_cell h47 1
    have c2' : w7.cell? ⟨p6, 2, none⟩ = some (.slice A q c) := block_cell h47 2
    have l7 := block_lt h47
    have HP7 := Lib.hid (PV_ext HP4.out hE7)
    have HB7 := Lib.hid h47
    clear hza hzb hE7 h47 HP4
    go_wp2_with fail
    clear c0' c1' c2' l7
    have hBa := heap_alloc_new w7 (.cells #[.int .i64 k, .int .i64 z, .slice A q c] 30)
    have hEa := ext_alloc (ext_refl w7) (.cells #[.int .i64 k, .int .i64 z, .slice A q c] 30)
    refine (one_any 4 _ 1 1 _).mono ?_
    rintro e x1 ⟨rfl, hx1⟩
    have HPS := Lib.hid (PV_wrap 4 0 (PV_ext HP7.out (ext_trans hEa hx1)) ((ext_block hx1 (block_lt hBa)).trans hBa))
    have HXx1 := Lib.hid (ext_trans hEa hx1)
    clear hEa hBa hx1
    go_wp2_with fail
    refine (compile_yes (.node 4 0 [t]) _ _ HPS.out (chk_loop 4 (.inl rfl) HFB.out (by omega) (by omega)).1).mono ?_
    rintro e x2 ⟨m1, rfl, hM, hx2⟩
    have HNm1 := Lib.hid hM
    have HYx2 := Lib.hid hx2
    clear hM hx2
    have hX := ext_trans HXx1.out HYx2.out
    replace HE7 := Lib.hid (ext_trans HE7.out hX)
    replace HB7 := Lib.hid ((ext_block hX (block_lt HB7.out)).trans HB7.out)
    replace HP7 := Lib.hid (PV_ext HP7.out hX)
    replace HZB := Lib.hid (rdY_ext HZB.out hX)
    clear hX
    have Hm1 := HNm1
    clear HNm1
    have c0' : x2.cell? ⟨p6, 0, none⟩ = some (.int .i64 k) := block_cell HB7.out 0
    have c1' : x2.cell? ⟨p6, 1, none⟩ = some (.int .i64 z) := block_cell HB7.out 1
    have c2' : x2.cell? ⟨p6, 2, none⟩ = some (.slice A q c) := block_cell HB7.out 2
    have l7 := block_lt HB7.out
    go_wp2_with fail
    clear c0' c1' c2' l7
    have hBa := heap_alloc_new x2 (.cells #[.int .i64 k, .int .i64 z, .slice A q c] 30)
    have hEa := ext_alloc (ext_refl x2) (.cells #[.int .i64 k, .int .i64 z, .slice A q c] 30)
    refine (one_any 5 _ 1 1 _).mono ?_
    rintro e x3 ⟨rfl, hx3⟩
    have HPA := Lib.hid (PV_wrap 5 0 (PV_ext HP7.out (ext_trans hEa hx3)) ((ext_block hx3 (block_lt hBa)).trans hBa))
    have HXx3 := Lib.hid (ext_trans hEa hx3)
    clear hEa hBa hx3
    obtain ⟨g1, hg1⟩ : ∃ g, g = x2.heap.size := ⟨_, rfl⟩
    rw [← hg1] at HPA ⊢
    clear hg1
    go_wp2_with fail
    have hBa := heap_alloc_new x3 (.cells #[.int .i64 5, .int .i64 0, .slice (some ⟨g1, 0, none⟩) 1 1] 30)
    have hEa := ext_alloc (ext_refl x3) (.cells #[.int .i64 5, .int .i64 0, .slice (some ⟨g1, 0, none⟩) 1 1] 30)
    refine (one_any 6 _ 1 1 _).mono ?_
    rintro e x4 ⟨rfl, hx4⟩
    have HPB := Lib.hid (PV_wrap 6 0 (PV_ext HPA.out (ext_trans hEa hx4)) ((ext_block hx4 (block_lt hBa)).trans hBa))
    have HXx4 := Lib.hid (ext_trans hEa hx4)
    clear hEa hBa hx4
    have hc5 := chk_loop (p := t) 5 (.inr (.inl rfl)) HFB.out (by omega) (by omega)
    go_wp2_with fail
    refine (compile_yes (.node 6 0 [.node 5 0 [t]]) _ _ HPB.out (chk_loop 6 (.inr (.inr rfl)) hc5.2.1 (by rw [hc5.2.2.1]; omega) (by rw [hc5.2.2.2]; omega)).1).mono ?_
    rintro e x5 ⟨m2, rfl, hM, hx5⟩
    have HNm2 := Lib.hid hM
    have HYx5 := Lib.hid hx5
    clear hM hx5
    have hX := ext_trans (ext_trans HXx3.out HXx4.out) HYx5.out
    replace HE7 := Lib.hid (ext_trans HE7.out hX)
    replace HB7 := Lib.hid ((ext_block hX (block_lt HB7.out)).trans HB7.out)
    replace HP7 := Lib.hid (PV_ext HP7.out hX)
    replace HZB := Lib.hid (rdY_ext HZB.out hX)
    replace Hm1 := Lib.hid (machT_ext Hm1.out hX)
    clear hX
    have Hm2 := HNm2
    clear HNm2
    clear hc5
    have c0' : x5.cell? ⟨p6, 0, none⟩ = some (.int .i64 k) := block_cell HB7.out 0
    have c1' : x5.cell? ⟨p6, 1, none⟩ = some (.int .i64 z) := block_cell HB7.out 1
    have c2' : x5.cell? ⟨p6, 2, none⟩ = some (.slice A q c) := block_cell HB7.out 2
    have l7 := block_lt HB7.out
    go_wp2_with fail
    clear c0' c1' c2' l7
    have hBa := heap_alloc_new x5 (.cells #[.int .i64 k, .int .i64 z, .slice A q c] 30)
    have hEa := ext_alloc (ext_refl x5) (.cells #[.int .i64 k, .int .i64 z, .slice A q c] 30)
    refine (one_any 5 _ 1 1 _).mono ?_
    rintro e x6 ⟨rfl, hx6⟩
    have HPC := Lib.hid (PV_wrap 5 0 (PV_ext HP7.out (ext_trans hEa hx6)) ((ext_block hx6 (block_lt hBa)).trans hBa))
    have HXx6 := Lib.hid (ext_trans hEa hx6)
    clear hEa hBa hx6
    go_wp2_with fail
    refine (compile_yes (.node 5 0 [t]) _ _ HPC.out (chk_loop 5 (.inr (.inl rfl)) HFB.out (by omega) (by omega)).1).mono ?_
    rintro e x7 ⟨m3, rfl, hM, hx7⟩
    have HNm3 := Lib.hid hM
    have HYx7 := Lib.hid hx7
    clear hM hx7
    have hX := ext_trans HXx6.out HYx7.out
    replace HE7 := Lib.hid (ext_trans HE7.out hX)
    replace HB7 := Lib.hid ((ext_block hX (block_lt HB7.out)).trans HB7.out)
    replace HP7 := Lib.hid (PV_ext HP7.out hX)
    replace HZB := Lib.hid (rdY_ext HZB.out hX)
    replace Hm1 := Lib.hid (machT_ext Hm1.out hX)
    replace Hm2 := Lib.hid (machT_ext Hm2.out hX)
    clear hX
    have Hm3 := HNm3
    clear HNm3
    have c0' : x7.cell? ⟨p6, 0, none⟩ = some (.int .i64 k) := block_cell HB7.out 0
    have c1' : x7.cell? ⟨p6, 1, none⟩ = some (.int .i64 z) := block_cell HB7.out 1
    have c2' : x7.cell? ⟨p6, 2, none⟩ = some (.slice A q c) := block_cell HB7.out 2
    have l7 := block_lt HB7.out
    have hgc := cell_grown
    go_wp2_with fail
    obtain ⟨wz, hwz⟩ : ∃ wz, wz = x7 := ⟨_, rfl⟩
    have b1 : ∀ pw : UW (fun _ => False) x7, pw.val.cell? ⟨p6, 0, none⟩ = some (.int .i64 k) := uw_cell c0' (fun h => h)
    have b2 : ∀ pw : UW (fun _ => False) x7, pw.val.cell? ⟨p6, 1, none⟩ = some (.int .i64 z) := uw_cell c1' (fun h => h)
    have b3 : ∀ pw : UW (fun _ => False) x7, pw.val.cell? ⟨p6, 2, none⟩ = some (.slice A q c) := uw_cell c2' (fun h => h)
    clear c0' c1' c2' l7 hgc hwz
    refine wp_region_chain (fp := fun _ => False) [] [0, 1, 2, 3] [(4, S4 k z A q c), (5, S5 t), (6, S6 t k z A q c), (7, S7 t), (8, S8 t)] 9 (S8 t) [10, 11, 12, 13] [4, 5, 6, 7, 8, 9] rfl (by kernel_rfl) (by kernel_rfl) (by kernel_rfl) (fun _ _ d _ _ h => by cases d <;> exact h) ?_
    refine wpPre_nil ?_
    repeat (refine wpU_step rfl (fun K hK => ?_); (try simp only [Oper.quietAt, Oper.quietUpon]); go_simp; (refine hK _ ?_; clear hK K))
    refine wpU_nil ?_
    refine wpGen_step rfl rfl s4_ext (fun w6 hE6 hS6 => ?_) (fun v4 => ?_)
    · simp only [runsAt]
      go_simp
      exact ⟨ext_alloc (ext_refl _) _, _, rfl, heap_alloc_new w6 _⟩
    refine wpGen_step rfl rfl s5_ext (fun w6 hE6 hS6 => ?_) (fun v5 => ?_)
    · obtain ⟨g, rfl, hg⟩ := hS6 _ (List.mem_cons_self ..) (by kernel_rfl)
      simp only [runsAt]
      go_simp
      refine (one_any 4 _ 1 1 _).mono ?_
      rintro e w7' ⟨rfl, h7⟩
      exact ⟨_, rfl, h7, g, rfl, PV_ext (PV_wrap 4 0 (PV_ext HP7.out hE6) hg) h7⟩
    refine wpGen_step rfl rfl s6_ext (fun w6 hE6 hS6 => ?_) (fun v6 => ?_)
    · obtain ⟨g, rfl, hg⟩ := hS6 _ (List.mem_cons_self ..) (by kernel_rfl)
      simp only [runsAt]
      go_simp
      exact ⟨ext_alloc (ext_refl _) _, g, _, rfl, heap_alloc_new w6 _, PV_ext hg (ext_alloc (ext_refl _) _)⟩
    refine wpGen_step rfl rfl s7_ext (fun w6 hE6 hS6 => ?_) (fun v7 => ?_)
    · obtain ⟨g, h, rfl, hh, hg⟩ := hS6 _ (List.mem_cons_self ..) (by kernel_rfl)
      simp only [runsAt]
      go_simp
      refine (one_any 2 _ 2 2 _).mono ?_
      rintro e w7' ⟨rfl, h7⟩
      exact ⟨_, rfl, h7, h, rfl, PV_ext (PV_pair 2 0 (PV_ext HP7.out hE6) hg hh) h7⟩
    refine wpGen_step rfl rfl s8_ext (fun w6 hE6 hS6 => ?_) (fun v8 => ?_)
    · obtain ⟨h, rfl, hp⟩ := hS6 _ (List.mem_cons_self ..) (by kernel_rfl)
      simp only [runsAt]
      go_simp
      have hc4 := chk_loop (p := t) 4 (.inl rfl) HFB.out (by omega) (by omega)
      refine (compile_yes (.node 2 0 [t, .node 4 0 [t]]) _ w6 hp (chk_pair 2 (.inl rfl) HFB.out (by omega) (by omega) hc4.2.1 (by rw [hc4.2.2.1]; omega) (by rw [hc4.2.2.2]; omega))).mono ?_
      rintro e w7' ⟨m4, rfl, hM, h7⟩
      exact ⟨_, rfl, h7, m4, w6, rfl, hM⟩
    refine wpGen_nil ?_
    refine ⟨⟨_, rfl, rfl, fun v a b hE hR => s8_ext v a b hE hR⟩, fun w6 hE6 hS6 o ho => ?_, fun o ho v w6 hU6 hR6 => ?_⟩
    · cases ho
      simp only [runsAt]
      go_simp
      exact ⟨upd_refl, hS6 _ (List.mem_cons_self ..)⟩
    · cases ho
      obtain ⟨m4, W4, rfl, hM4⟩ := hR6
      have Hm4 := Lib.hid hM4
      have HU6 := Lib.hid (ext_of_upd hU6)
      clear b1 b2 b3 hM4 hU6
      refine wpAny_two (i := 10) (j := 11) (by kernel_rfl) rfl rfl ?_ ?_
      · go_wp2_with fail
        refine wpAny_two (i := 11) (j := 12) (by kernel_rfl) rfl rfl ?_ ?_
        · go_wp2_with fail
          refine wpAny_one (i := 12) (by kernel_rfl) rfl ?_
          go_wp2_with fail
          refine wpAny_one (i := 13) (by kernel_rfl) rfl ?_
          go_wp2_with fail
          refine wpAny_end (by kernel_rfl) ?_
          replace Hm1 := Lib.hid (machT_ext Hm1.out HU6.out)
          replace Hm2 := Lib.hid (machT_ext Hm2.out HU6.out)
          replace Hm3 := Lib.hid (machT_ext Hm3.out HU6.out)
          replace HZB := Lib.hid (rdY_ext HZB.out HU6.out)
          replace HE7 := Lib.hid (ext_trans HE7.out HU6.out)
          clear HU6
          cases hpv : tk (.node 5 0 [t]) U with
          | true =>
            have hsv : tk (.node 4 0 [t]) U = true := plus_star hpv
            have HSV := Lib.hid hsv
            have HPV := Lib.hid hpv
            clear hsv hpv
            go_wp2_with fail
            refine (mtakes_any _ _ m1 (.node 4 0 [t]) _ [] Hm1.out (rdY_nil _) (by simp)).mono ?_
            rintro e y1 ⟨rfl, hy⟩
            rw [star_nil]
            have hX := hy
            replace Hm1 := Lib.hid (machT_ext Hm1.out hX)
            replace Hm2 := Lib.hid (machT_ext Hm2.out hX)
            replace Hm3 := Lib.hid (machT_ext Hm3.out hX)
            replace Hm4 := Lib.hid (machT_ext Hm4.out hX)
            replace HZB := Lib.hid (rdY_ext HZB.out hX)
            replace HE7 := Lib.hid (ext_trans HE7.out hX)
            clear hX
            clear hy
            go_wp2_with fail
            refine (mtakes_any _ _ m1 (.node 4 0 [t]) vb U Hm1.out HZB.out (by omega)).mono ?_
            rintro e y2 ⟨rfl, hy⟩
            rw [HSV.out]
            have hX := hy
            replace Hm1 := Lib.hid (machT_ext Hm1.out hX)
            replace Hm2 := Lib.hid (machT_ext Hm2.out hX)
            replace Hm3 := Lib.hid (machT_ext Hm3.out hX)
            replace Hm4 := Lib.hid (machT_ext Hm4.out hX)
            replace HZB := Lib.hid (rdY_ext HZB.out hX)
            replace HE7 := Lib.hid (ext_trans HE7.out hX)
            clear hX
            clear hy
            go_wp2_with fail
            refine (mtakes_any _ _ m2 (.node 6 0 [.node 5 0 [t]]) vb U Hm2.out HZB.out (by omega)).mono ?_
            rintro e y3 ⟨rfl, hy⟩
            rw [star_again, HSV.out]
            have hX := hy
            replace Hm1 := Lib.hid (machT_ext Hm1.out hX)
            replace Hm2 := Lib.hid (machT_ext Hm2.out hX)
            replace Hm3 := Lib.hid (machT_ext Hm3.out hX)
            replace Hm4 := Lib.hid (machT_ext Hm4.out hX)
            replace HZB := Lib.hid (rdY_ext HZB.out hX)
            replace HE7 := Lib.hid (ext_trans HE7.out hX)
            clear hX
            clear hy
            go_wp2_with fail
            refine (mtakes_any _ _ m3 (.node 5 0 [t]) vb U Hm3.out HZB.out (by omega)).mono ?_
            rintro e y4 ⟨rfl, hy⟩
            rw [HPV.out]
            have hX := hy
            replace Hm1 := Lib.hid (machT_ext Hm1.out hX)
            replace Hm2 := Lib.hid (machT_ext Hm2.out hX)
            replace Hm3 := Lib.hid (machT_ext Hm3.out hX)
            replace Hm4 := Lib.hid (machT_ext Hm4.out hX)
            replace HZB := Lib.hid (rdY_ext HZB.out hX)
            replace HE7 := Lib.hid (ext_trans HE7.out hX)
            clear hX
            clear hy
            go_wp2_with fail
            refine (mtakes_any _ _ m4 (.node 2 0 [t, .node 4 0 [t]]) vb U Hm4.out HZB.out (by omega)).mono ?_
            rintro e y5 ⟨rfl, hy⟩
            rw [plus_both, HPV.out]
            have hX := hy
            replace Hm1 := Lib.hid (machT_ext Hm1.out hX)
            replace Hm2 := Lib.hid (machT_ext Hm2.out hX)
            replace Hm3 := Lib.hid (machT_ext Hm3.out hX)
            replace Hm4 := Lib.hid (machT_ext Hm4.out hX)
            replace HZB := Lib.hid (rdY_ext HZB.out hX)
            replace HE7 := Lib.hid (ext_trans HE7.out hX)
            clear hX
            clear hy
            go_wp2_with fail
            refine (mtakes_any _ _ m3 (.node 5 0 [t]) vb U Hm3.out HZB.out (by omega)).mono ?_
            rintro e y6 ⟨rfl, hy⟩
            rw [HPV.out]
            have hX := hy
            replace Hm1 := Lib.hid (machT_ext Hm1.out hX)
            replace Hm2 := Lib.hid (machT_ext Hm2.out hX)
            replace Hm3 := Lib.hid (machT_ext Hm3.out hX)
            replace Hm4 := Lib.hid (machT_ext Hm4.out hX)
            replace HZB := Lib.hid (rdY_ext HZB.out hX)
            replace HE7 := Lib.hid (ext_trans HE7.out hX)
            clear hX
            clear hy
            go_wp2_with fail
            refine (mtakes_any _ _ m1 (.node 4 0 [t]) vb U Hm1.out HZB.out (by omega)).mono ?_
            rintro e y7 ⟨rfl, hy⟩
            rw [HSV.out]
            have hX := hy
            replace Hm1 := Lib.hid (machT_ext Hm1.out hX)
            replace Hm2 := Lib.hid (machT_ext Hm2.out hX)
            replace Hm3 := Lib.hid (machT_ext Hm3.out hX)
            replace Hm4 := Lib.hid (machT_ext Hm4.out hX)
            replace HZB := Lib.hid (rdY_ext HZB.out hX)
            replace HE7 := Lib.hid (ext_trans HE7.out hX)
            clear hX
            clear hy
            go_wp2
            refine bodyPost_ret (results_tmp rfl _ _ _) rfl ?_
            exact ⟨rfl, ext_trans HE4.out HE7.out⟩
          | false =>
            have HPV := Lib.hid hpv
            obtain ⟨sv, hsv⟩ : ∃ b, tk (.node 4 0 [t]) U = b := ⟨_, rfl⟩
            have HSV := Lib.hid hsv
            have hbb := beq_self sv
            clear hsv hpv
            go_wp2_with fail
            refine (mtakes_any _ _ m1 (.node 4 0 [t]) _ [] Hm1.out (rdY_nil _) (by simp)).mono ?_
            rintro e y1 ⟨rfl, hy⟩
            rw [star_nil]
            have hX := hy
            replace Hm1 := Lib.hid (machT_ext Hm1.out hX)
            replace Hm2 := Lib.hid (machT_ext Hm2.out hX)
            replace Hm3 := Lib.hid (machT_ext Hm3.out hX)
            replace Hm4 := Lib.hid (machT_ext Hm4.out hX)
            replace HZB := Lib.hid (rdY_ext HZB.out hX)
            replace HE7 := Lib.hid (ext_trans HE7.out hX)
            clear hX
            clear hy
            go_wp2_with fail
            refine (mtakes_any _ _ m1 (.node 4 0 [t]) vb U Hm1.out HZB.out (by omega)).mono ?_
            rintro e y2 ⟨rfl, hy⟩
            rw [HSV.out]
            have hX := hy
            replace Hm1 := Lib.hid (machT_ext Hm1.out hX)
            replace Hm2 := Lib.hid (machT_ext Hm2.out hX)
            replace Hm3 := Lib.hid (machT_ext Hm3.out hX)
            replace Hm4 := Lib.hid (machT_ext Hm4.out hX)
            replace HZB := Lib.hid (rdY_ext HZB.out hX)
            replace HE7 := Lib.hid (ext_trans HE7.out hX)
            clear hX
            clear hy
            go_wp2_with fail
            refine (mtakes_any _ _ m2 (.node 6 0 [.node 5 0 [t]]) vb U Hm2.out HZB.out (by omega)).mono ?_
            rintro e y3 ⟨rfl, hy⟩
            rw [star_again, HSV.out]
            have hX := hy
            replace Hm1 := Lib.hid (machT_ext Hm1.out hX)
            replace Hm2 := Lib.hid (machT_ext Hm2.out hX)
            replace Hm3 := Lib.hid (machT_ext Hm3.out hX)
            replace Hm4 := Lib.hid (machT_ext Hm4.out hX)
            replace HZB := Lib.hid (rdY_ext HZB.out hX)
            replace HE7 := Lib.hid (ext_trans HE7.out hX)
            clear hX
            clear hy
            go_wp2_with fail
            refine (mtakes_any _ _ m3 (.node 5 0 [t]) vb U Hm3.out HZB.out (by omega)).mono ?_
            rintro e y4 ⟨rfl, hy⟩
            rw [HPV.out]
            have hX := hy
            replace Hm1 := Lib.hid (machT_ext Hm1.out hX)
            replace Hm2 := Lib.hid (machT_ext Hm2.out hX)
            replace Hm3 := Lib.hid (machT_ext Hm3.out hX)
            replace Hm4 := Lib.hid (machT_ext Hm4.out hX)
            replace HZB := Lib.hid (rdY_ext HZB.out hX)
            replace HE7 := Lib.hid (ext_trans HE7.out hX)
            clear hX
            clear hy
            go_wp2_with fail
            refine (mtakes_any _ _ m4 (.node 2 0 [t, .node 4 0 [t]]) vb U Hm4.out HZB.out (by omega)).mono ?_
            rintro e y5 ⟨rfl, hy⟩
            rw [plus_both, HPV.out]
            have hX := hy
            replace Hm1 := Lib.hid (machT_ext Hm1.out hX)
            replace Hm2 := Lib.hid (machT_ext Hm2.out hX)
            replace Hm3 := Lib.hid (machT_ext Hm3.out hX)
            replace Hm4 := Lib.hid (machT_ext Hm4.out hX)
            replace HZB := Lib.hid (rdY_ext HZB.out hX)
            replace HE7 := Lib.hid (ext_trans HE7.out hX)
            clear hX
            clear hy
            go_wp2_with fail
            refine (mtakes_any _ _ m3 (.node 5 0 [t]) vb U Hm3.out HZB.out (by omega)).mono ?_
            rintro e y6 ⟨rfl, hy⟩
            rw [HPV.out]
            have hX := hy
            replace Hm1 := Lib.hid (machT_ext Hm1.out hX)
            replace Hm2 := Lib.hid (machT_ext Hm2.out hX)
            replace Hm3 := Lib.hid (machT_ext Hm3.out hX)
            replace Hm4 := Lib.hid (machT_ext Hm4.out hX)
            replace HZB := Lib.hid (rdY_ext HZB.out hX)
            replace HE7 := Lib.hid (ext_trans HE7.out hX)
            clear hX
            clear hy
            go_wp2
            refine bodyPost_ret (results_tmp rfl _ _ _) rfl ?_
            exact ⟨rfl, ext_trans HE4.out HE7.out⟩
        · go_wp2_with fail
          refine wpAny_one (i := 11) (by kernel_rfl) rfl ?_
          go_wp2_with fail
          refine wpAny_one (i := 13) (by kernel_rfl) rfl ?_
          go_wp2_with fail
          refine wpAny_end (by kernel_rfl) ?_
          replace Hm1 := Lib.hid (machT_ext Hm1.out HU6.out)
          replace Hm2 := Lib.hid (machT_ext Hm2.out HU6.out)
          replace Hm3 := Lib.hid (machT_ext Hm3.out HU6.out)
          replace HZB := Lib.hid (rdY_ext HZB.out HU6.out)
          replace HE7 := Lib.hid (ext_trans HE7.out HU6.out)
          clear HU6
          cases hpv : tk (.node 5 0 [t]) U with
          | true =>
            have hsv : tk (.node 4 0 [t]) U = true := plus_star hpv
            have HSV := Lib.hid hsv
            have HPV := Lib.hid hpv
            clear hsv hpv
            go_wp2_with fail
            refine (mtakes_any _ _ m1 (.node 4 0 [t]) _ [] Hm1.out (rdY_nil _) (by simp)).mono ?_
            rintro e y1 ⟨rfl, hy⟩
            rw [star_nil]
            have hX := hy
            replace Hm1 := Lib.hid (machT_ext Hm1.out hX)
            replace Hm2 := Lib.hid (machT_ext Hm2.out hX)
            replace Hm3 := Lib.hid (machT_ext Hm3.out hX)
            replace Hm4 := Lib.hid (machT_ext Hm4.out hX)
            replace HZB := Lib.hid (rdY_ext HZB.out hX)
            replace HE7 := Lib.hid (ext_trans HE7.out hX)
            clear hX
            clear hy
            go_wp2_with fail
            refine (mtakes_any _ _ m1 (.node 4 0 [t]) vb U Hm1.out HZB.out (by omega)).mono ?_
            rintro e y2 ⟨rfl, hy⟩
            rw [HSV.out]
            have hX := hy
            replace Hm1 := Lib.hid (machT_ext Hm1.out hX)
            replace Hm2 := Lib.hid (machT_ext Hm2.out hX)
            replace Hm3 := Lib.hid (machT_ext Hm3.out hX)
            replace Hm4 := Lib.hid (machT_ext Hm4.out hX)
            replace HZB := Lib.hid (rdY_ext HZB.out hX)
            replace HE7 := Lib.hid (ext_trans HE7.out hX)
            clear hX
            clear hy
            go_wp2_with fail
            refine (mtakes_any _ _ m2 (.node 6 0 [.node 5 0 [t]]) vb U Hm2.out HZB.out (by omega)).mono ?_
            rintro e y3 ⟨rfl, hy⟩
            rw [star_again, HSV.out]
            have hX := hy
            replace Hm1 := Lib.hid (machT_ext Hm1.out hX)
            replace Hm2 := Lib.hid (machT_ext Hm2.out hX)
            replace Hm3 := Lib.hid (machT_ext Hm3.out hX)
            replace Hm4 := Lib.hid (machT_ext Hm4.out hX)
            replace HZB := Lib.hid (rdY_ext HZB.out hX)
            replace HE7 := Lib.hid (ext_trans HE7.out hX)
            clear hX
            clear hy
            go_wp2_with fail
            refine (mtakes_any _ _ m3 (.node 5 0 [t]) vb U Hm3.out HZB.out (by omega)).mono ?_
            rintro e y4 ⟨rfl, hy⟩
            rw [HPV.out]
            have hX := hy
            replace Hm1 := Lib.hid (machT_ext Hm1.out hX)
            replace Hm2 := Lib.hid (machT_ext Hm2.out hX)
            replace Hm3 := Lib.hid (machT_ext Hm3.out hX)
            replace Hm4 := Lib.hid (machT_ext Hm4.out hX)
            replace HZB := Lib.hid (rdY_ext HZB.out hX)
            replace HE7 := Lib.hid (ext_trans HE7.out hX)
            clear hX
            clear hy
            go_wp2_with fail
            refine (mtakes_any _ _ m4 (.node 2 0 [t, .node 4 0 [t]]) vb U Hm4.out HZB.out (by omega)).mono ?_
            rintro e y5 ⟨rfl, hy⟩
            rw [plus_both, HPV.out]
            have hX := hy
            replace Hm1 := Lib.hid (machT_ext Hm1.out hX)
            replace Hm2 := Lib.hid (machT_ext Hm2.out hX)
            replace Hm3 := Lib.hid (machT_ext Hm3.out hX)
            replace Hm4 := Lib.hid (machT_ext Hm4.out hX)
            replace HZB := Lib.hid (rdY_ext HZB.out hX)
            replace HE7 := Lib.hid (ext_trans HE7.out hX)
            clear hX
            clear hy
            go_wp2_with fail
            refine (mtakes_any _ _ m3 (.node 5 0 [t]) vb U Hm3.out HZB.out (by omega)).mono ?_
            rintro e y6 ⟨rfl, hy⟩
            rw [HPV.out]
            have hX := hy
            replace Hm1 := Lib.hid (machT_ext Hm1.out hX)
            replace Hm2 := Lib.hid (machT_ext Hm2.out hX)
            replace Hm3 := Lib.hid (machT_ext Hm3.out hX)
            replace Hm4 := Lib.hid (machT_ext Hm4.out hX)
            replace HZB := Lib.hid (rdY_ext HZB.out hX)
            replace HE7 := Lib.hid (ext_trans HE7.out hX)
            clear hX
            clear hy
            go_wp2_with fail
            refine (mtakes_any _ _ m1 (.node 4 0 [t]) vb U Hm1.out HZB.out (by omega)).mono ?_
            rintro e y7 ⟨rfl, hy⟩
            rw [HSV.out]
            have hX := hy
            replace Hm1 := Lib.hid (machT_ext Hm1.out hX)
            replace Hm2 := Lib.hid (machT_ext Hm2.out hX)
            replace Hm3 := Lib.hid (machT_ext Hm3.out hX)
            replace Hm4 := Lib.hid (machT_ext Hm4.out hX)
            replace HZB := Lib.hid (rdY_ext HZB.out hX)
            replace HE7 := Lib.hid (ext_trans HE7.out hX)
            clear hX
            clear hy
            go_wp2
            refine bodyPost_ret (results_tmp rfl _ _ _) rfl ?_
            exact ⟨rfl, ext_trans HE4.out HE7.out⟩
          | false =>
            have HPV := Lib.hid hpv
            obtain ⟨sv, hsv⟩ : ∃ b, tk (.node 4 0 [t]) U = b := ⟨_, rfl⟩
            have HSV := Lib.hid hsv
            have hbb := beq_self sv
            clear hsv hpv
            go_wp2_with fail
            refine (mtakes_any _ _ m1 (.node 4 0 [t]) _ [] Hm1.out (rdY_nil _) (by simp)).mono ?_
            rintro e y1 ⟨rfl, hy⟩
            rw [star_nil]
            have hX := hy
            replace Hm1 := Lib.hid (machT_ext Hm1.out hX)
            replace Hm2 := Lib.hid (machT_ext Hm2.out hX)
            replace Hm3 := Lib.hid (machT_ext Hm3.out hX)
            replace Hm4 := Lib.hid (machT_ext Hm4.out hX)
            replace HZB := Lib.hid (rdY_ext HZB.out hX)
            replace HE7 := Lib.hid (ext_trans HE7.out hX)
            clear hX
            clear hy
            go_wp2_with fail
            refine (mtakes_any _ _ m1 (.node 4 0 [t]) vb U Hm1.out HZB.out (by omega)).mono ?_
            rintro e y2 ⟨rfl, hy⟩
            rw [HSV.out]
            have hX := hy
            replace Hm1 := Lib.hid (machT_ext Hm1.out hX)
            replace Hm2 := Lib.hid (machT_ext Hm2.out hX)
            replace Hm3 := Lib.hid (machT_ext Hm3.out hX)
            replace Hm4 := Lib.hid (machT_ext Hm4.out hX)
            replace HZB := Lib.hid (rdY_ext HZB.out hX)
            replace HE7 := Lib.hid (ext_trans HE7.out hX)
            clear hX
            clear hy
            go_wp2_with fail
            refine (mtakes_any _ _ m2 (.node 6 0 [.node 5 0 [t]]) vb U Hm2.out HZB.out (by omega)).mono ?_
            rintro e y3 ⟨rfl, hy⟩
            rw [star_again, HSV.out]
            have hX := hy
            replace Hm1 := Lib.hid (machT_ext Hm1.out hX)
            replace Hm2 := Lib.hid (machT_ext Hm2.out hX)
            replace Hm3 := Lib.hid (machT_ext Hm3.out hX)
            replace Hm4 := Lib.hid (machT_ext Hm4.out hX)
            replace HZB := Lib.hid (rdY_ext HZB.out hX)
            replace HE7 := Lib.hid (ext_trans HE7.out hX)
            clear hX
            clear hy
            go_wp2_with fail
            refine (mtakes_any _ _ m3 (.node 5 0 [t]) vb U Hm3.out HZB.out (by omega)).mono ?_
            rintro e y4 ⟨rfl, hy⟩
            rw [HPV.out]
            have hX := hy
            replace Hm1 := Lib.hid (machT_ext Hm1.out hX)
            replace Hm2 := Lib.hid (machT_ext Hm2.out hX)
            replace Hm3 := Lib.hid (machT_ext Hm3.out hX)
            replace Hm4 := Lib.hid (machT_ext Hm4.out hX)
            replace HZB := Lib.hid (rdY_ext HZB.out hX)
            replace HE7 := Lib.hid (ext_trans HE7.out hX)
            clear hX
            clear hy
            go_wp2_with fail
            refine (mtakes_any _ _ m4 (.node 2 0 [t, .node 4 0 [t]]) vb U Hm4.out HZB.out (by omega)).mono ?_
            rintro e y5 ⟨rfl, hy⟩
            rw [plus_both, HPV.out]
            have hX := hy
            replace Hm1 := Lib.hid (machT_ext Hm1.out hX)
            replace Hm2 := Lib.hid (machT_ext Hm2.out hX)
            replace Hm3 := Lib.hid (machT_ext Hm3.out hX)
            replace Hm4 := Lib.hid (machT_ext Hm4.out hX)
            replace HZB := Lib.hid (rdY_ext HZB.out hX)
            replace HE7 := Lib.hid (ext_trans HE7.out hX)
            clear hX
            clear hy
            go_wp2_with fail
            refine (mtakes_any _ _ m3 (.node 5 0 [t]) vb U Hm3.out HZB.out (by omega)).mono ?_
            rintro e y6 ⟨rfl, hy⟩
            rw [HPV.out]
            have hX := hy
            replace Hm1 := Lib.hid (machT_ext Hm1.out hX)
            replace Hm2 := Lib.hid (machT_ext Hm2.out hX)
            replace Hm3 := Lib.hid (machT_ext Hm3.out hX)
            replace Hm4 := Lib.hid (machT_ext Hm4.out hX)
            replace HZB := Lib.hid (rdY_ext HZB.out hX)
            replace HE7 := Lib.hid (ext_trans HE7.out hX)
            clear hX
            clear hy
            go_wp2
            refine bodyPost_ret (results_tmp rfl _ _ _) rfl ?_
            exact ⟨rfl, ext_trans HE4.out HE7.out⟩
      · go_wp2_with fail
        refine wpAny_one (i := 10) (by kernel_rfl) rfl ?_
        go_wp2_with fail
        refine wpAny_one (i := 12) (by kernel_rfl) rfl ?_
        go_wp2_with fail
        refine wpAny_one (i := 13) (by kernel_rfl) rfl ?_
        go_wp2_with fail
        refine wpAny_end (by kernel_rfl) ?_
        replace Hm1 := Lib.hid (machT_ext Hm1.out HU6.out)
        replace Hm2 := Lib.hid (machT_ext Hm2.out HU6.out)
        replace Hm3 := Lib.hid (machT_ext Hm3.out HU6.out)
        replace HZB := Lib.hid (rdY_ext HZB.out HU6.out)
        replace HE7 := Lib.hid (ext_trans HE7.out HU6.out)
        clear HU6
        cases hpv : tk (.node 5 0 [t]) U with
        | true =>
          have hsv : tk (.node 4 0 [t]) U = true := plus_star hpv
          have HSV := Lib.hid hsv
          have HPV := Lib.hid hpv
          clear hsv hpv
          go_wp2_with fail
          refine (mtakes_any _ _ m1 (.node 4 0 [t]) _ [] Hm1.out (rdY_nil _) (by simp)).mono ?_
          rintro e y1 ⟨rfl, hy⟩
          rw [star_nil]
          have hX := hy
          replace Hm1 := Lib.hid (machT_ext Hm1.out hX)
          replace Hm2 := Lib.hid (machT_ext Hm2.out hX)
          replace Hm3 := Lib.hid (machT_ext Hm3.out hX)
          replace Hm4 := Lib.hid (machT_ext Hm4.out hX)
          replace HZB := Lib.hid (rdY_ext HZB.out hX)
          replace HE7 := Lib.hid (ext_trans HE7.out hX)
          clear hX
          clear hy
          go_wp2_with fail
          refine (mtakes_any _ _ m1 (.node 4 0 [t]) vb U Hm1.out HZB.out (by omega)).mono ?_
          rintro e y2 ⟨rfl, hy⟩
          rw [HSV.out]
          have hX := hy
          replace Hm1 := Lib.hid (machT_ext Hm1.out hX)
          replace Hm2 := Lib.hid (machT_ext Hm2.out hX)
          replace Hm3 := Lib.hid (machT_ext Hm3.out hX)
          replace Hm4 := Lib.hid (machT_ext Hm4.out hX)
          replace HZB := Lib.hid (rdY_ext HZB.out hX)
          replace HE7 := Lib.hid (ext_trans HE7.out hX)
          clear hX
          clear hy
          go_wp2_with fail
          refine (mtakes_any _ _ m2 (.node 6 0 [.node 5 0 [t]]) vb U Hm2.out HZB.out (by omega)).mono ?_
          rintro e y3 ⟨rfl, hy⟩
          rw [star_again, HSV.out]
          have hX := hy
          replace Hm1 := Lib.hid (machT_ext Hm1.out hX)
          replace Hm2 := Lib.hid (machT_ext Hm2.out hX)
          replace Hm3 := Lib.hid (machT_ext Hm3.out hX)
          replace Hm4 := Lib.hid (machT_ext Hm4.out hX)
          replace HZB := Lib.hid (rdY_ext HZB.out hX)
          replace HE7 := Lib.hid (ext_trans HE7.out hX)
          clear hX
          clear hy
          go_wp2_with fail
          refine (mtakes_any _ _ m3 (.node 5 0 [t]) vb U Hm3.out HZB.out (by omega)).mono ?_
          rintro e y4 ⟨rfl, hy⟩
          rw [HPV.out]
          have hX := hy
          replace Hm1 := Lib.hid (machT_ext Hm1.out hX)
          replace Hm2 := Lib.hid (machT_ext Hm2.out hX)
          replace Hm3 := Lib.hid (machT_ext Hm3.out hX)
          replace Hm4 := Lib.hid (machT_ext Hm4.out hX)
          replace HZB := Lib.hid (rdY_ext HZB.out hX)
          replace HE7 := Lib.hid (ext_trans HE7.out hX)
          clear hX
          clear hy
          go_wp2_with fail
          refine (mtakes_any _ _ m4 (.node 2 0 [t, .node 4 0 [t]]) vb U Hm4.out HZB.out (by omega)).mono ?_
          rintro e y5 ⟨rfl, hy⟩
          rw [plus_both, HPV.out]
          have hX := hy
          replace Hm1 := Lib.hid (machT_ext Hm1.out hX)
          replace Hm2 := Lib.hid (machT_ext Hm2.out hX)
          replace Hm3 := Lib.hid (machT_ext Hm3.out hX)
          replace Hm4 := Lib.hid (machT_ext Hm4.out hX)
          replace HZB := Lib.hid (rdY_ext HZB.out hX)
          replace HE7 := Lib.hid (ext_trans HE7.out hX)
          clear hX
          clear hy
          go_wp2_with fail
          refine (mtakes_any _ _ m3 (.node 5 0 [t]) vb U Hm3.out HZB.out (by omega)).mono ?_
          rintro e y6 ⟨rfl, hy⟩
          rw [HPV.out]
          have hX := hy
          replace Hm1 := Lib.hid (machT_ext Hm1.out hX)
          replace Hm2 := Lib.hid (machT_ext Hm2.out hX)
          replace Hm3 := Lib.hid (machT_ext Hm3.out hX)
          replace Hm4 := Lib.hid (machT_ext Hm4.out hX)
          replace HZB := Lib.hid (rdY_ext HZB.out hX)
          replace HE7 := Lib.hid (ext_trans HE7.out hX)
          clear hX
          clear hy
          go_wp2_with fail
          refine (mtakes_any _ _ m1 (.node 4 0 [t]) vb U Hm1.out HZB.out (by omega)).mono ?_
          rintro e y7 ⟨rfl, hy⟩
          rw [HSV.out]
          have hX := hy
          replace Hm1 := Lib.hid (machT_ext Hm1.out hX)
          replace Hm2 := Lib.hid (machT_ext Hm2.out hX)
          replace Hm3 := Lib.hid (machT_ext Hm3.out hX)
          replace Hm4 := Lib.hid (machT_ext Hm4.out hX)
          replace HZB := Lib.hid (rdY_ext HZB.out hX)
          replace HE7 := Lib.hid (ext_trans HE7.out hX)
          clear hX
          clear hy
          go_wp2
          refine bodyPost_ret (results_tmp rfl _ _ _) rfl ?_
          exact ⟨rfl, ext_trans HE4.out HE7.out⟩
        | false =>
          have HPV := Lib.hid hpv
          obtain ⟨sv, hsv⟩ : ∃ b, tk (.node 4 0 [t]) U = b := ⟨_, rfl⟩
          have HSV := Lib.hid hsv
          have hbb := beq_self sv
          clear hsv hpv
          go_wp2_with fail
          refine (mtakes_any _ _ m1 (.node 4 0 [t]) _ [] Hm1.out (rdY_nil _) (by simp)).mono ?_
          rintro e y1 ⟨rfl, hy⟩
          rw [star_nil]
          have hX := hy
          replace Hm1 := Lib.hid (machT_ext Hm1.out hX)
          replace Hm2 := Lib.hid (machT_ext Hm2.out hX)
          replace Hm3 := Lib.hid (machT_ext Hm3.out hX)
          replace Hm4 := Lib.hid (machT_ext Hm4.out hX)
          replace HZB := Lib.hid (rdY_ext HZB.out hX)
          replace HE7 := Lib.hid (ext_trans HE7.out hX)
          clear hX
          clear hy
          go_wp2_with fail
          refine (mtakes_any _ _ m1 (.node 4 0 [t]) vb U Hm1.out HZB.out (by omega)).mono ?_
          rintro e y2 ⟨rfl, hy⟩
          rw [HSV.out]
          have hX := hy
          replace Hm1 := Lib.hid (machT_ext Hm1.out hX)
          replace Hm2 := Lib.hid (machT_ext Hm2.out hX)
          replace Hm3 := Lib.hid (machT_ext Hm3.out hX)
          replace Hm4 := Lib.hid (machT_ext Hm4.out hX)
          replace HZB := Lib.hid (rdY_ext HZB.out hX)
          replace HE7 := Lib.hid (ext_trans HE7.out hX)
          clear hX
          clear hy
          go_wp2_with fail
          refine (mtakes_any _ _ m2 (.node 6 0 [.node 5 0 [t]]) vb U Hm2.out HZB.out (by omega)).mono ?_
          rintro e y3 ⟨rfl, hy⟩
          rw [star_again, HSV.out]
          have hX := hy
          replace Hm1 := Lib.hid (machT_ext Hm1.out hX)
          replace Hm2 := Lib.hid (machT_ext Hm2.out hX)
          replace Hm3 := Lib.hid (machT_ext Hm3.out hX)
          replace Hm4 := Lib.hid (machT_ext Hm4.out hX)
          replace HZB := Lib.hid (rdY_ext HZB.out hX)
          replace HE7 := Lib.hid (ext_trans HE7.out hX)
          clear hX
          clear hy
          go_wp2_with fail
          refine (mtakes_any _ _ m3 (.node 5 0 [t]) vb U Hm3.out HZB.out (by omega)).mono ?_
          rintro e y4 ⟨rfl, hy⟩
          rw [HPV.out]
          have hX := hy
          replace Hm1 := Lib.hid (machT_ext Hm1.out hX)
          replace Hm2 := Lib.hid (machT_ext Hm2.out hX)
          replace Hm3 := Lib.hid (machT_ext Hm3.out hX)
          replace Hm4 := Lib.hid (machT_ext Hm4.out hX)
          replace HZB := Lib.hid (rdY_ext HZB.out hX)
          replace HE7 := Lib.hid (ext_trans HE7.out hX)
          clear hX
          clear hy
          go_wp2_with fail
          refine (mtakes_any _ _ m4 (.node 2 0 [t, .node 4 0 [t]]) vb U Hm4.out HZB.out (by omega)).mono ?_
          rintro e y5 ⟨rfl, hy⟩
          rw [plus_both, HPV.out]
          have hX := hy
          replace Hm1 := Lib.hid (machT_ext Hm1.out hX)
          replace Hm2 := Lib.hid (machT_ext Hm2.out hX)
          replace Hm3 := Lib.hid (machT_ext Hm3.out hX)
          replace Hm4 := Lib.hid (machT_ext Hm4.out hX)
          replace HZB := Lib.hid (rdY_ext HZB.out hX)
          replace HE7 := Lib.hid (ext_trans HE7.out hX)
          clear hX
          clear hy
          go_wp2_with fail
          refine (mtakes_any _ _ m3 (.node 5 0 [t]) vb U Hm3.out HZB.out (by omega)).mono ?_
          rintro e y6 ⟨rfl, hy⟩
          rw [HPV.out]
          have hX := hy
          replace Hm1 := Lib.hid (machT_ext Hm1.out hX)
          replace Hm2 := Lib.hid (machT_ext Hm2.out hX)
          replace Hm3 := Lib.hid (machT_ext Hm3.out hX)
          replace Hm4 := Lib.hid (machT_ext Hm4.out hX)
          replace HZB := Lib.hid (rdY_ext HZB.out hX)
          replace HE7 := Lib.hid (ext_trans HE7.out hX)
          clear hX
          clear hy
          go_wp2
          refine bodyPost_ret (results_tmp rfl _ _ _) rfl ?_
          exact ⟨rfl, ext_trans HE4.out HE7.out⟩
end Go.Proofs.Ytiabmdboacpmcaa
