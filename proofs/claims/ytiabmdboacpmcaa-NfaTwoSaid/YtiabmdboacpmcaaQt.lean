/- NfaTwo. -/
import Derived.Test.YtiabmdboacpmcaaQr
namespace Go.Proofs.Ytiabmdboacpmcaa
open Go Go.RowKit Go.Sort
set_option maxHeartbeats 40000000

/-- can a word be parted, so far? -/
noncomputable def parts2 (p q : Tr) (u : List Sy) (k : Nat) : Bool := (List.range k).any fun i => tk p (u.take i) && tk q (u.drop i)
theorem parts2_next (p q : Tr) (u : List Sy) (k : Nat) : parts2 p q u (k + 1) = (parts2 p q u k || (tk p (u.take k) && tk q (u.drop k))) := by
  unfold parts2
  rw [List.range_succ, List.any_append]
  simp
theorem seq_parts2 (p q : Tr) (u : List Sy) : tk (.node 2 0 [p, q]) u = parts2 p q u (u.length + 1) := by
  rw [Bool.eq_iff_iff, tk_iff, words_seq, wordsSeq_cut]
  unfold parts2
  rw [List.any_eq_true]
  constructor
  · rintro ⟨k, hk, h1, h2⟩
    exact ⟨k, List.mem_range.2 (by omega), by rw [(tk_iff _ _).2 h1, (tk_iff _ _).2 ((wordsSeq_one _ _).1 h2)]; rfl⟩
  · rintro ⟨k, hk, h⟩
    rw [Bool.and_eq_true, tk_iff, tk_iff] at h
    exact ⟨k, by have := List.mem_range.1 hk; omega, h.1, (wordsSeq_one _ _).2 h.2⟩
theorem alt_tk (p q : Tr) (u : List Sy) : tk (.node 3 0 [p, q]) u = (tk p u || tk q u) := by
  rw [Bool.eq_iff_iff, tk_iff, words_alt, Bool.or_eq_true, tk_iff, tk_iff, WordsAlt, wordsAlt_one]
set_option maxRecDepth 100000 in
theorem two_law (v1 v2 vl : Value) (M1 M2 : List Nd) (B : List Nat) (w : World) (hv1 : RdNd w v1 M1) (hv2 : RdNd w v2 M2) (hb : RdB w vl B) : Calls Try.prog 6 #[v1, v2, vl] w fun e w' => e = .returned (.bool true) ∧ Ext w w' := by
  have HBY0 := Lib.hid hb
  obtain ⟨A1, c1, rfl, hc1, hok1, hA1⟩ := hv1
  have HW1 : Hid (RdNd w (.slice A1 M1.length c1) M1) := Lib.hid ⟨A1, c1, rfl, hc1, hok1, hA1⟩
  obtain ⟨A2, c2, rfl, hc2, hok2, hA2⟩ := hv2
  have HW2 : Hid (RdNd w (.slice A2 M2.length c2) M2) := Lib.hid ⟨A2, c2, rfl, hc2, hok2, hA2⟩
  clear hb hA1 hok1 hA2 hok2
  go_enter Try.func6, Try.ntmps6
  go_wp2_with fail
  refine (awake_any _).mono ?_
  rintro e w1 ⟨rfl, hE1⟩
  have HE := Lib.hid hE1
  have HBY := Lib.hid (rdB_ext HBY0.out hE1)
  have HV1' := Lib.hid (rdNd_ext HW1.out hE1)
  have HV2' := Lib.hid (rdNd_ext HW2.out hE1)
  clear hE1 HBY0
  by_cases h5 : 5 < M1.length
  · have h5i : (5 : Int) < (M1.length : Int) := by omega
    have h5n : 5 ≤ c1 := by omega
    have HV1 := Lib.hid (rdNd_take HV1'.out (show 5 ≤ M1.length by omega) c1 h5n)
    have HL1 : Hid ((M1.take 5).length ≤ 5) := Lib.hid (by rw [List.length_take]; omega)
    by_cases g5 : 5 < M2.length
    · have g5i : (5 : Int) < (M2.length : Int) := by omega
      have g5n : 5 ≤ c2 := by omega
      have HV2 := Lib.hid (rdNd_take HV2'.out (show 5 ≤ M2.length by omega) c2 g5n)
      have HL2 : Hid ((M2.take 5).length ≤ 5) := Lib.hid (by rw [List.length_take]; omega)
      go_wp2_with fail
      refine (fix_any _ (M1.take 5) _ HV1.out).mono ?_
      rintro e x1 ⟨L1', u1, rfl, hr, hF, hl, hx1⟩
      have HR := Lib.hid hr
      have HF := Lib.hid hF
      have hl1 : L1'.length ≤ 5 := by have := HL1.out; omega
      have Hx1 := Lib.hid hx1
      clear hr hF hl hx1
      have hX := Hx1.out
      replace HE := Lib.hid (ext_trans HE.out hX)
      replace HV2 := Lib.hid (rdNd_ext HV2.out hX)
      replace HBY := Lib.hid (rdB_ext HBY.out hX)
      clear hX
      go_wp2_with fail
      refine (tree_fix 5 (by decide) (by decide) u1 L1' _ HR.out HF.out hl1).mono ?_
      rintro e x2 ⟨rb1, n1, t1, k1, z1, A1, q1, d1, rfl, -, hfit, -, hpv, hx2⟩
      obtain ⟨hfb, hs1, hd1⟩ := fit_small hfit (by decide)
      have HFB1 := Lib.hid hfb
      have HCK1 := Lib.hid ((fit_chk hfit (by decide)).2.2 (by decide))
      have HP1 := Lib.hid hpv
      have Hx2 := Lib.hid hx2
      clear hfit hfb hpv hx2 hl1
      have hX := Hx2.out
      replace HE := Lib.hid (ext_trans HE.out hX)
      replace HV2 := Lib.hid (rdNd_ext HV2.out hX)
      replace HBY := Lib.hid (rdB_ext HBY.out hX)
      clear hX
      clear HR HF
      go_wp2_with fail
      have hEa := ext_alloc (ext_refl x2) (.cells #[.int .i64 k1, .int .i64 z1, .slice A1 q1 d1] 30)
      have hBa := heap_alloc_new x2 (.cells #[.int .i64 k1, .int .i64 z1, .slice A1 q1 d1] 30)
      obtain ⟨x3, hw⟩ : ∃ W, W = x2.alloc (.cells #[.int .i64 k1, .int .i64 z1, .slice A1 q1 d1] 30) := ⟨_, rfl⟩
      obtain ⟨p1, hp⟩ : ∃ p, p = x2.heap.size := ⟨_, rfl⟩
      rw [← hw] at hEa hBa ⊢
      rw [← hp] at hBa ⊢
      clear hw hp
      have HB1 := Lib.hid hBa
      have HEa := Lib.hid hEa
      clear hBa hEa
      have hX := HEa.out
      replace HE := Lib.hid (ext_trans HE.out hX)
      replace HV2 := Lib.hid (rdNd_ext HV2.out hX)
      replace HBY := Lib.hid (rdB_ext HBY.out hX)
      replace HP1 := Lib.hid (PV_ext HP1.out hX)
      clear hX
      clear HEa
      refine (fix_any _ (M2.take 5) _ HV2.out).mono ?_
      rintro e x4 ⟨L2', u2, rfl, hr, hF, hl, hx4⟩
      have HR := Lib.hid hr
      have HF := Lib.hid hF
      have hl2 : L2'.length ≤ 5 := by have := HL2.out; omega
      have Hx4 := Lib.hid hx4
      clear hr hF hl hx4
      have hX := Hx4.out
      replace HE := Lib.hid (ext_trans HE.out hX)
      replace HV2 := Lib.hid (rdNd_ext HV2.out hX)
      replace HBY := Lib.hid (rdB_ext HBY.out hX)
      replace HP1 := Lib.hid (PV_ext HP1.out hX)
      replace HB1 := Lib.hid ((ext_block hX (block_lt HB1.out)).trans HB1.out)
      clear hX
      go_wp2_with fail
      refine (tree_fix 5 (by decide) (by decide) u2 L2' _ HR.out HF.out hl2).mono ?_
      rintro e x5 ⟨rb2, n2, t2, k2, z2, A2, q2, d2, rfl, -, hfit, -, hpv, hx5⟩
      obtain ⟨hfb, hs2, hd2⟩ := fit_small hfit (by decide)
      have HFB2 := Lib.hid hfb
      have HCK2 := Lib.hid ((fit_chk hfit (by decide)).2.2 (by decide))
      have HP2 := Lib.hid hpv
      have Hx5 := Lib.hid hx5
      clear hfit hfb hpv hx5 hl2
      have hX := Hx5.out
      replace HE := Lib.hid (ext_trans HE.out hX)
      replace HV2 := Lib.hid (rdNd_ext HV2.out hX)
      replace HBY := Lib.hid (rdB_ext HBY.out hX)
      replace HP1 := Lib.hid (PV_ext HP1.out hX)
      replace HB1 := Lib.hid ((ext_block hX (block_lt HB1.out)).trans HB1.out)
      clear hX
      clear HR HF
      go_wp2_with fail
      have hEa := ext_alloc (ext_refl x5) (.cells #[.int .i64 k2, .int .i64 z2, .slice A2 q2 d2] 30)
      have hBa := heap_alloc_new x5 (.cells #[.int .i64 k2, .int .i64 z2, .slice A2 q2 d2] 30)
      obtain ⟨x6, hw⟩ : ∃ W, W = x5.alloc (.cells #[.int .i64 k2, .int .i64 z2, .slice A2 q2 d2] 30) := ⟨_, rfl⟩
      obtain ⟨p2, hp⟩ : ∃ p, p = x5.heap.size := ⟨_, rfl⟩
      rw [← hw] at hEa hBa ⊢
      rw [← hp] at hBa ⊢
      clear hw hp
      have HB2 := Lib.hid hBa
      have HEa := Lib.hid hEa
      clear hBa hEa
      have hX := HEa.out
      replace HE := Lib.hid (ext_trans HE.out hX)
      replace HV2 := Lib.hid (rdNd_ext HV2.out hX)
      replace HBY := Lib.hid (rdB_ext HBY.out hX)
      replace HP1 := Lib.hid (PV_ext HP1.out hX)
      replace HB1 := Lib.hid ((ext_block hX (block_lt HB1.out)).trans HB1.out)
      replace HP2 := Lib.hid (PV_ext HP2.out hX)
      clear hX
      clear HEa
      refine (word_any vl B _ HBY.out).mono ?_
      rintro e x7 ⟨U, va, vb, rfl, hza, hzb, hU5, -, hx7⟩
      obtain ⟨Ab, cb, rfl⟩ := rowE_form hzb.1
      have hcb := (rowE_cap hzb.1).2
      have HZB := Lib.hid (rdY_row hzb.1)
      have Hx7 := Lib.hid hx7
      clear hza hzb hx7
      have hX := Hx7.out
      replace HE := Lib.hid (ext_trans HE.out hX)
      replace HP1 := Lib.hid (PV_ext HP1.out hX)
      replace HB1 := Lib.hid ((ext_block hX (block_lt HB1.out)).trans HB1.out)
      replace HP2 := Lib.hid (PV_ext HP2.out hX)
      replace HB2 := Lib.hid ((ext_block hX (block_lt HB2.out)).trans HB2.out)
      clear hX
      have a0 : x7.cell? ⟨p1, 0, none⟩ = some (.int .i64 k1) := block_cell HB1.out 0
      have a1 : x7.cell? ⟨p1, 1, none⟩ = some (.int .i64 z1) := block_cell HB1.out 1
      have a2 : x7.cell? ⟨p1, 2, none⟩ = some (.slice A1 q1 d1) := block_cell HB1.out 2
      have al := block_lt HB1.out
      go_wp2_with fail
      clear a0 a1 a2 al
      refine (compile_yes t1 _ _ HP1.out HCK1.out).mono ?_
      rintro e x8 ⟨m1, rfl, hM, hx8⟩
      have HN := Lib.hid hM
      have HY := Lib.hid hx8
      clear hM hx8
      have hX := HY.out
      replace HE := Lib.hid (ext_trans HE.out hX)
      replace HP1 := Lib.hid (PV_ext HP1.out hX)
      replace HB1 := Lib.hid ((ext_block hX (block_lt HB1.out)).trans HB1.out)
      replace HP2 := Lib.hid (PV_ext HP2.out hX)
      replace HB2 := Lib.hid ((ext_block hX (block_lt HB2.out)).trans HB2.out)
      replace HZB := Lib.hid (rdY_ext HZB.out hX)
      clear hX
      have Hm1 := HN
      clear HN HY
      have b0 : x8.cell? ⟨p2, 0, none⟩ = some (.int .i64 k2) := block_cell HB2.out 0
      have b1 : x8.cell? ⟨p2, 1, none⟩ = some (.int .i64 z2) := block_cell HB2.out 1
      have b2 : x8.cell? ⟨p2, 2, none⟩ = some (.slice A2 q2 d2) := block_cell HB2.out 2
      have bl := block_lt HB2.out
      go_wp2_with fail
      clear b0 b1 b2 bl
      refine (compile_yes t2 _ _ HP2.out HCK2.out).mono ?_
      rintro e x9 ⟨m2, rfl, hM, hx9⟩
      have HN := Lib.hid hM
      have HY := Lib.hid hx9
      clear hM hx9
      have hX := HY.out
      replace HE := Lib.hid (ext_trans HE.out hX)
      replace HP1 := Lib.hid (PV_ext HP1.out hX)
      replace HB1 := Lib.hid ((ext_block hX (block_lt HB1.out)).trans HB1.out)
      replace HP2 := Lib.hid (PV_ext HP2.out hX)
      replace HB2 := Lib.hid ((ext_block hX (block_lt HB2.out)).trans HB2.out)
      replace HZB := Lib.hid (rdY_ext HZB.out hX)
      replace Hm1 := Lib.hid (machT_ext Hm1.out hX)
      clear hX
      have Hm2 := HN
      clear HN HY
      have a0 : x9.cell? ⟨p1, 0, none⟩ = some (.int .i64 k1) := block_cell HB1.out 0
      have a1 : x9.cell? ⟨p1, 1, none⟩ = some (.int .i64 z1) := block_cell HB1.out 1
      have a2 : x9.cell? ⟨p1, 2, none⟩ = some (.slice A1 q1 d1) := block_cell HB1.out 2
      have al := block_lt HB1.out
      have b0 : x9.cell? ⟨p2, 0, none⟩ = some (.int .i64 k2) := block_cell HB2.out 0
      have b1 : x9.cell? ⟨p2, 1, none⟩ = some (.int .i64 z2) := block_cell HB2.out 1
      have b2 : x9.cell? ⟨p2, 2, none⟩ = some (.slice A2 q2 d2) := block_cell HB2.out 2
      have bl := block_lt HB2.out
      go_wp2_with fail
      clear a0 a1 a2 al b0 b1 b2 bl
      have hBa := heap_alloc_new x9 (.cells #[.int .i64 k1, .int .i64 z1, .slice A1 q1 d1, .int .i64 k2, .int .i64 z2, .slice A2 q2 d2] 30)
      have hEa := ext_alloc (ext_refl x9) (.cells #[.int .i64 k1, .int .i64 z1, .slice A1 q1 d1, .int .i64 k2, .int .i64 z2, .slice A2 q2 d2] 30)
      have HQ := Lib.hid (PV_pair 3 0 (PV_ext HP1.out hEa) (PV_ext HP2.out hEa) hBa)
      have HEa := Lib.hid hEa
      clear hBa hEa
      refine (compile_yes (.node 3 0 [t1, t2]) _ _ HQ.out (chk_pair 3 (.inr rfl) HFB1.out (by omega) (by omega) HFB2.out (by omega) (by omega))).mono ?_
      rintro e x10 ⟨m3, rfl, hM, hx10⟩
      have HN := Lib.hid hM
      have HY := Lib.hid hx10
      clear hM hx10
      have hX := (ext_trans HEa.out HY.out)
      replace HE := Lib.hid (ext_trans HE.out hX)
      replace HP1 := Lib.hid (PV_ext HP1.out hX)
      replace HB1 := Lib.hid ((ext_block hX (block_lt HB1.out)).trans HB1.out)
      replace HP2 := Lib.hid (PV_ext HP2.out hX)
      replace HB2 := Lib.hid ((ext_block hX (block_lt HB2.out)).trans HB2.out)
      replace HZB := Lib.hid (rdY_ext HZB.out hX)
      replace Hm1 := Lib.hid (machT_ext Hm1.out hX)
      replace Hm2 := Lib.hid (machT_ext Hm2.out hX)
      clear hX
      have Hm3 := HN
      clear HN HY
      clear HQ HEa
      have a0 : x10.cell? ⟨p1, 0, none⟩ = some (.int .i64 k1) := block_cell HB1.out 0
      have a1 : x10.cell? ⟨p1, 1, none⟩ = some (.int .i64 z1) := block_cell HB1.out 1
      have a2 : x10.cell? ⟨p1, 2, none⟩ = some (.slice A1 q1 d1) := block_cell HB1.out 2
      have al := block_lt HB1.out
      have b0 : x10.cell? ⟨p2, 0, none⟩ = some (.int .i64 k2) := block_cell HB2.out 0
      have b1 : x10.cell? ⟨p2, 1, none⟩ = some (.int .i64 z2) := block_cell HB2.out 1
      have b2 : x10.cell? ⟨p2, 2, none⟩ = some (.slice A2 q2 d2) := block_cell HB2.out 2
      have bl := block_lt HB2.out
      go_wp2_with fail
      clear a0 a1 a2 al b0 b1 b2 bl
      have hBa := heap_alloc_new x10 (.cells #[.int .i64 k1, .int .i64 z1, .slice A1 q1 d1, .int .i64 k2, .int .i64 z2, .slice A2 q2 d2] 30)
      have hEa := ext_alloc (ext_refl x10) (.cells #[.int .i64 k1, .int .i64 z1, .slice A1 q1 d1, .int .i64 k2, .int .i64 z2, .slice A2 q2 d2] 30)
      have HQ := Lib.hid (PV_pair 2 0 (PV_ext HP1.out hEa) (PV_ext HP2.out hEa) hBa)
      have HEa := Lib.hid hEa
      clear hBa hEa
      refine (compile_yes (.node 2 0 [t1, t2]) _ _ HQ.out (chk_pair 2 (.inl rfl) HFB1.out (by omega) (by omega) HFB2.out (by omega) (by omega))).mono ?_
      rintro e x11 ⟨m4, rfl, hM, hx11⟩
      have HN := Lib.hid hM
      have HY := Lib.hid hx11
      clear hM hx11
      have hX := (ext_trans HEa.out HY.out)
      replace HE := Lib.hid (ext_trans HE.out hX)
      replace HP1 := Lib.hid (PV_ext HP1.out hX)
      replace HB1 := Lib.hid ((ext_block hX (block_lt HB1.out)).trans HB1.out)
      replace HP2 := Lib.hid (PV_ext HP2.out hX)
      replace HB2 := Lib.hid ((ext_block hX (block_lt HB2.out)).trans HB2.out)
      replace HZB := Lib.hid (rdY_ext HZB.out hX)
      replace Hm1 := Lib.hid (machT_ext Hm1.out hX)
      replace Hm2 := Lib.hid (machT_ext Hm2.out hX)
      replace Hm3 := Lib.hid (machT_ext Hm3.out hX)
      clear hX
      have Hm4 := HN
      clear HN HY
      clear HQ HEa
      have hbase := HE.out
      clear hbase
      go_wp2
      go_loopw [22, 21] (fun x y wr => ∃ k : Nat, k ≤ U.length + 1 ∧ x = .int .i64 (k : Int) ∧ y = .bool (parts2 t1 t2 U k) ∧ Ext x11 wr) (fun x _ _ => U.length + 1 - (intOf x).toNat)
      case atStart => exact ⟨0, Nat.zero_le _, rfl, rfl, ext_refl _⟩
      case round =>
        rename World => wr
        obtain ⟨k, hk, rfl, rfl, hEr⟩ := hrel
        have HER := Lib.hid hEr
        clear hEr
        by_cases hlt : k ≤ U.length
        · have hki : (k : Int) ≤ (U.length : Int) := by omega
          have hk0 : (0 : Int) ≤ (k : Int) := by omega
          have hkc : k ≤ cb := by omega
          have HC1 := Lib.hid (mtakes_any _ wr m1 t1 (.slice Ab k cb) (U.take k) (machT_ext Hm1.out HER.out) (rdY_take (rdY_ext HZB.out HER.out) hlt _ hkc) (by rw [List.length_take]; omega))
          cases hs : parts2 t1 t2 U k with
          | true =>
            have HS := Lib.hid hs
            clear hs
            go_wp2
            go_roundw
            case rel => exact ⟨k + 1, by omega, by go_num, by rw [parts2_next, HS.out]; rfl, HER.out⟩
            case measure => simp [intOf]; omega
          | false =>
            have HS := Lib.hid hs
            clear hs
            cases h1 : tk t1 (U.take k) with
            | false =>
              rw [h1] at HC1
              have H1 := Lib.hid h1
              clear h1
              go_wp2_with fail
              refine HC1.out.mono ?_
              rintro e y1 ⟨rfl, hy⟩
              have HY := Lib.hid (ext_trans HER.out hy)
              clear hy
              go_wp2
              go_roundw
              case rel => exact ⟨k + 1, by omega, by go_num, by rw [parts2_next, HS.out, H1.out]; rfl, HY.out⟩
              case measure => simp [intOf]; omega
            | true =>
              rw [h1] at HC1
              have H1 := Lib.hid h1
              clear h1
              by_cases hck : cb = k
              · have hce : cb = U.length := by omega
                subst hce
                subst hck
                clear hlt hkc
                go_wp2_with fail
                refine HC1.out.mono ?_
                rintro e y1 ⟨rfl, hy⟩
                have HY := Lib.hid (ext_trans HER.out hy)
                clear hy
                go_wp2_with fail
                refine (mtakes_any _ _ m2 t2 _ [] (machT_ext Hm2.out HY.out) (rdY_nil0 _ _ _) (by simp)).mono ?_
                rintro e y2 ⟨rfl, hy⟩
                have HY2 := Lib.hid (ext_trans HY.out hy)
                clear hy
                obtain ⟨b2, hb2⟩ : ∃ b, b = tk t2 (U.drop U.length) := ⟨_, rfl⟩
                have hb3 := hb2
                rw [List.drop_length] at hb3
                rw [← hb3]
                have HB2' := Lib.hid hb2
                clear hb2 hb3
                go_wp2
                go_roundw
                case rel => exact ⟨U.length + 1, by omega, by go_num, by rw [parts2_next, HS.out, H1.out, ← HB2'.out]; simp, HY2.out⟩
                case measure => simp [intOf]
              · go_wp2_with fail
                refine HC1.out.mono ?_
                rintro e y1 ⟨rfl, hy⟩
                have HY := Lib.hid (ext_trans HER.out hy)
                clear hy
                have hf := rdY_from (k := k) (rdY_ext HZB.out HY.out) hlt
                rw [if_neg hck] at hf
                have HFF := Lib.hid hf
                clear hf
                go_wp2_with fail
                refine (mtakes_any _ _ m2 t2 _ (U.drop k) (machT_ext Hm2.out HY.out) HFF.out (by rw [List.length_drop]; omega)).mono ?_
                rintro e y2 ⟨rfl, hy⟩
                have HY2 := Lib.hid (ext_trans HY.out hy)
                clear hy
                obtain ⟨b2, hb2⟩ : ∃ b, b = tk t2 (U.drop k) := ⟨_, rfl⟩
                rw [← hb2]
                have HB2' := Lib.hid hb2
                clear hb2
                go_wp2
                go_roundw
                case rel => exact ⟨k + 1, by omega, by go_num, by rw [parts2_next, HS.out, H1.out, ← HB2'.out]; simp, HY2.out⟩
                case measure => simp [intOf]; omega
        · obtain rfl : k = U.length + 1 := by omega
          have hki : ¬ ((U.length + 1 : Nat) : Int) ≤ (U.length : Int) := by omega
          obtain ⟨ss, hss⟩ : ∃ b, b = parts2 t1 t2 U (U.length + 1) := ⟨_, rfl⟩
          rw [← hss]
          have HSS := Lib.hid (hss.trans (seq_parts2 t1 t2 U).symm)
          have hbs := beq_self ss
          clear hss
          go_wp2_with fail
          refine (mtakes_any _ _ m3 (.node 3 0 [t1, t2]) _ U (machT_ext Hm3.out HER.out) (rdY_ext HZB.out HER.out) (by omega)).mono ?_
          rintro e y1 ⟨rfl, hy⟩
          rw [alt_tk]
          have HY1 := Lib.hid (ext_trans HER.out hy)
          clear hy
          have HC1 := Lib.hid (mtakes_any _ y1 m1 t1 _ U (machT_ext Hm1.out HY1.out) (rdY_ext HZB.out HY1.out) (by omega))
          cases h1 : tk t1 U with
          | true =>
            rw [h1] at HC1
            clear h1
            rw [Bool.true_or]
            go_wp2_with fail
            refine HC1.out.mono ?_
            rintro e y2 ⟨rfl, hy⟩
            have HY2 := Lib.hid (ext_trans HY1.out hy)
            clear hy
            go_wp2_with fail
            refine (mtakes_any _ _ m4 (.node 2 0 [t1, t2]) _ U (machT_ext Hm4.out HY2.out) (rdY_ext HZB.out HY2.out) (by omega)).mono ?_
            rintro e y3 ⟨rfl, hy⟩
            rw [← HSS.out]
            have HY3 := Lib.hid (ext_trans HY2.out hy)
            clear hy
            go_wp2
            refine bodyPost_ret (results_tmp rfl _ _ _) rfl ?_
            exact ⟨rfl, ext_trans HE.out HY3.out⟩
          | false =>
            rw [h1] at HC1
            clear h1
            rw [Bool.false_or]
            obtain ⟨b2, hb2⟩ : ∃ b, b = tk t2 U := ⟨_, rfl⟩
            rw [← hb2]
            have HB2' := Lib.hid hb2
            have hbb := beq_self b2
            clear hb2
            go_wp2_with fail
            refine HC1.out.mono ?_
            rintro e y2 ⟨rfl, hy⟩
            have HY2 := Lib.hid (ext_trans HY1.out hy)
            clear hy
            go_wp2_with fail
            refine (mtakes_any _ _ m2 t2 _ U (machT_ext Hm2.out HY2.out) (rdY_ext HZB.out HY2.out) (by omega)).mono ?_
            rintro e y3 ⟨rfl, hy⟩
            rw [← HB2'.out]
            have HY3 := Lib.hid (ext_trans HY2.out hy)
            clear hy
            go_wp2_with fail
            refine (mtakes_any _ _ m4 (.node 2 0 [t1, t2]) _ U (machT_ext Hm4.out HY3.out) (rdY_ext HZB.out HY3.out) (by omega)).mono ?_
            rintro e y4 ⟨rfl, hy⟩
            rw [← HSS.out]
            have HY4 := Lib.hid (ext_trans HY3.out hy)
            clear hy
            go_wp2
            refine bodyPost_ret (results_tmp rfl _ _ _) rfl ?_
            exact ⟨rfl, ext_trans HE.out HY4.out⟩
    · have g5i : ¬ (5 : Int) < (M2.length : Int) := by omega
      have HV2 := HV2'
      have HL2 : Hid (M2.length ≤ 5) := Lib.hid (by omega)
      go_wp2_with fail
      refine (fix_any _ (M1.take 5) _ HV1.out).mono ?_
      rintro e x1 ⟨L1', u1, rfl, hr, hF, hl, hx1⟩
      have HR := Lib.hid hr
      have HF := Lib.hid hF
      have hl1 : L1'.length ≤ 5 := by have := HL1.out; omega
      have Hx1 := Lib.hid hx1
      clear hr hF hl hx1
      have hX := Hx1.out
      replace HE := Lib.hid (ext_trans HE.out hX)
      replace HV2 := Lib.hid (rdNd_ext HV2.out hX)
      replace HBY := Lib.hid (rdB_ext HBY.out hX)
      clear hX
      go_wp2_with fail
      refine (tree_fix 5 (by decide) (by decide) u1 L1' _ HR.out HF.out hl1).mono ?_
      rintro e x2 ⟨rb1, n1, t1, k1, z1, A1, q1, d1, rfl, -, hfit, -, hpv, hx2⟩
      obtain ⟨hfb, hs1, hd1⟩ := fit_small hfit (by decide)
      have HFB1 := Lib.hid hfb
      have HCK1 := Lib.hid ((fit_chk hfit (by decide)).2.2 (by decide))
      have HP1 := Lib.hid hpv
      have Hx2 := Lib.hid hx2
      clear hfit hfb hpv hx2 hl1
      have hX := Hx2.out
      replace HE := Lib.hid (ext_trans HE.out hX)
      replace HV2 := Lib.hid (rdNd_ext HV2.out hX)
      replace HBY := Lib.hid (rdB_ext HBY.out hX)
      clear hX
      clear HR HF
      go_wp2_with fail
      have hEa := ext_alloc (ext_refl x2) (.cells #[.int .i64 k1, .int .i64 z1, .slice A1 q1 d1] 30)
      have hBa := heap_alloc_new x2 (.cells #[.int .i64 k1, .int .i64 z1, .slice A1 q1 d1] 30)
      obtain ⟨x3, hw⟩ : ∃ W, W = x2.alloc (.cells #[.int .i64 k1, .int .i64 z1, .slice A1 q1 d1] 30) := ⟨_, rfl⟩
      obtain ⟨p1, hp⟩ : ∃ p, p = x2.heap.size := ⟨_, rfl⟩
      rw [← hw] at hEa hBa ⊢
      rw [← hp] at hBa ⊢
      clear hw hp
      have HB1 := Lib.hid hBa
      have HEa := Lib.hid hEa
      clear hBa hEa
      have hX := HEa.out
      replace HE := Lib.hid (ext_trans HE.out hX)
      replace HV2 := Lib.hid (rdNd_ext HV2.out hX)
      replace HBY := Lib.hid (rdB_ext HBY.out hX)
      replace HP1 := Lib.hid (PV_ext HP1.out hX)
      clear hX
      clear HEa
      refine (fix_any _ M2 _ HV2.out).mono ?_
      rintro e x4 ⟨L2', u2, rfl, hr, hF, hl, hx4⟩
      have HR := Lib.hid hr
      have HF := Lib.hid hF
      have hl2 : L2'.length ≤ 5 := by have := HL2.out; omega
      have Hx4 := Lib.hid hx4
      clear hr hF hl hx4
      have hX := Hx4.out
      replace HE := Lib.hid (ext_trans HE.out hX)
      replace HV2 := Lib.hid (rdNd_ext HV2.out hX)
      replace HBY := Lib.hid (rdB_ext HBY.out hX)
      replace HP1 := Lib.hid (PV_ext HP1.out hX)
      replace HB1 := Lib.hid ((ext_block hX (block_lt HB1.out)).trans HB1.out)
      clear hX
      go_wp2_with fail
      refine (tree_fix 5 (by decide) (by decide) u2 L2' _ HR.out HF.out hl2).mono ?_
      rintro e x5 ⟨rb2, n2, t2, k2, z2, A2, q2, d2, rfl, -, hfit, -, hpv, hx5⟩
      obtain ⟨hfb, hs2, hd2⟩ := fit_small hfit (by decide)
      have HFB2 := Lib.hid hfb
      have HCK2 := Lib.hid ((fit_chk hfit (by decide)).2.2 (by decide))
      have HP2 := Lib.hid hpv
      have Hx5 := Lib.hid hx5
      clear hfit hfb hpv hx5 hl2
      have hX := Hx5.out
      replace HE := Lib.hid (ext_trans HE.out hX)
      replace HV2 := Lib.hid (rdNd_ext HV2.out hX)
      replace HBY := Lib.hid (rdB_ext HBY.out hX)
      replace HP1 := Lib.hid (PV_ext HP1.out hX)
      replace HB1 := Lib.hid ((ext_block hX (block_lt HB1.out)).trans HB1.out)
      clear hX
      clear HR HF
      go_wp2_with fail
      have hEa := ext_alloc (ext_refl x5) (.cells #[.int .i64 k2, .int .i64 z2, .slice A2 q2 d2] 30)
      have hBa := heap_alloc_new x5 (.cells #[.int .i64 k2, .int .i64 z2, .slice A2 q2 d2] 30)
      obtain ⟨x6, hw⟩ : ∃ W, W = x5.alloc (.cells #[.int .i64 k2, .int .i64 z2, .slice A2 q2 d2] 30) := ⟨_, rfl⟩
      obtain ⟨p2, hp⟩ : ∃ p, p = x5.heap.size := ⟨_, rfl⟩
      rw [← hw] at hEa hBa ⊢
      rw [← hp] at hBa ⊢
      clear hw hp
      have HB2 := Lib.hid hBa
      have HEa := Lib.hid hEa
      clear hBa hEa
      have hX := HEa.out
      replace HE := Lib.hid (ext_trans HE.out hX)
      replace HV2 := Lib.hid (rdNd_ext HV2.out hX)
      replace HBY := Lib.hid (rdB_ext HBY.out hX)
      replace HP1 := Lib.hid (PV_ext HP1.out hX)
      replace HB1 := Lib.hid ((ext_block hX (block_lt HB1.out)).trans HB1.out)
      replace HP2 := Lib.hid (PV_ext HP2.out hX)
      clear hX
      clear HEa
      refine (word_any vl B _ HBY.out).mono ?_
      rintro e x7 ⟨U, va, vb, rfl, hza, hzb, hU5, -, hx7⟩
      obtain ⟨Ab, cb, rfl⟩ := rowE_form hzb.1
      have hcb := (rowE_cap hzb.1).2
      have HZB := Lib.hid (rdY_row hzb.1)
      have Hx7 := Lib.hid hx7
      clear hza hzb hx7
      have hX := Hx7.out
      replace HE := Lib.hid (ext_trans HE.out hX)
      replace HP1 := Lib.hid (PV_ext HP1.out hX)
      replace HB1 := Lib.hid ((ext_block hX (block_lt HB1.out)).trans HB1.out)
      replace HP2 := Lib.hid (PV_ext HP2.out hX)
      replace HB2 := Lib.hid ((ext_block hX (block_lt HB2.out)).trans HB2.out)
      clear hX
      have a0 : x7.cell? ⟨p1, 0, none⟩ = some (.int .i64 k1) := block_cell HB1.out 0
      have a1 : x7.cell? ⟨p1, 1, none⟩ = some (.int .i64 z1) := block_cell HB1.out 1
      have a2 : x7.cell? ⟨p1, 2, none⟩ = some (.slice A1 q1 d1) := block_cell HB1.out 2
      have al := block_lt HB1.out
      go_wp2_with fail
      clear a0 a1 a2 al
      refine (compile_yes t1 _ _ HP1.out HCK1.out).mono ?_
      rintro e x8 ⟨m1, rfl, hM, hx8⟩
      have HN := Lib.hid hM
      have HY := Lib.hid hx8
      clear hM hx8
      have hX := HY.out
      replace HE := Lib.hid (ext_trans HE.out hX)
      replace HP1 := Lib.hid (PV_ext HP1.out hX)
      replace HB1 := Lib.hid ((ext_block hX (block_lt HB1.out)).trans HB1.out)
      replace HP2 := Lib.hid (PV_ext HP2.out hX)
      replace HB2 := Lib.hid ((ext_block hX (block_lt HB2.out)).trans HB2.out)
      replace HZB := Lib.hid (rdY_ext HZB.out hX)
      clear hX
      have Hm1 := HN
      clear HN HY
      have b0 : x8.cell? ⟨p2, 0, none⟩ = some (.int .i64 k2) := block_cell HB2.out 0
      have b1 : x8.cell? ⟨p2, 1, none⟩ = some (.int .i64 z2) := block_cell HB2.out 1
      have b2 : x8.cell? ⟨p2, 2, none⟩ = some (.slice A2 q2 d2) := block_cell HB2.out 2
      have bl := block_lt HB2.out
      go_wp2_with fail
      clear b0 b1 b2 bl
      refine (compile_yes t2 _ _ HP2.out HCK2.out).mono ?_
      rintro e x9 ⟨m2, rfl, hM, hx9⟩
      have HN := Lib.hid hM
      have HY := Lib.hid hx9
      clear hM hx9
      have hX := HY.out
      replace HE := Lib.hid (ext_trans HE.out hX)
      replace HP1 := Lib.hid (PV_ext HP1.out hX)
      replace HB1 := Lib.hid ((ext_block hX (block_lt HB1.out)).trans HB1.out)
      replace HP2 := Lib.hid (PV_ext HP2.out hX)
      replace HB2 := Lib.hid ((ext_block hX (block_lt HB2.out)).trans HB2.out)
      replace HZB := Lib.hid (rdY_ext HZB.out hX)
      replace Hm1 := Lib.hid (machT_ext Hm1.out hX)
      clear hX
      have Hm2 := HN
      clear HN HY
      have a0 : x9.cell? ⟨p1, 0, none⟩ = some (.int .i64 k1) := block_cell HB1.out 0
      have a1 : x9.cell? ⟨p1, 1, none⟩ = some (.int .i64 z1) := block_cell HB1.out 1
      have a2 : x9.cell? ⟨p1, 2, none⟩ = some (.slice A1 q1 d1) := block_cell HB1.out 2
      have al := block_lt HB1.out
      have b0 : x9.cell? ⟨p2, 0, none⟩ = some (.int .i64 k2) := block_cell HB2.out 0
      have b1 : x9.cell? ⟨p2, 1, none⟩ = some (.int .i64 z2) := block_cell HB2.out 1
      have b2 : x9.cell? ⟨p2, 2, none⟩ = some (.slice A2 q2 d2) := block_cell HB2.out 2
      have bl := block_lt HB2.out
      go_wp2_with fail
      clear a0 a1 a2 al b0 b1 b2 bl
      have hBa := heap_alloc_new x9 (.cells #[.int .i64 k1, .int .i64 z1, .slice A1 q1 d1, .int .i64 k2, .int .i64 z2, .slice A2 q2 d2] 30)
      have hEa := ext_alloc (ext_refl x9) (.cells #[.int .i64 k1, .int .i64 z1, .slice A1 q1 d1, .int .i64 k2, .int .i64 z2, .slice A2 q2 d2] 30)
      have HQ := Lib.hid (PV_pair 3 0 (PV_ext HP1.out hEa) (PV_ext HP2.out hEa) hBa)
      have HEa := Lib.hid hEa
      clear hBa hEa
      refine (compile_yes (.node 3 0 [t1, t2]) _ _ HQ.out (chk_pair 3 (.inr rfl) HFB1.out (by omega) (by omega) HFB2.out (by omega) (by omega))).mono ?_
      rintro e x10 ⟨m3, rfl, hM, hx10⟩
      have HN := Lib.hid hM
      have HY := Lib.hid hx10
      clear hM hx10
      have hX := (ext_trans HEa.out HY.out)
      replace HE := Lib.hid (ext_trans HE.out hX)
      replace HP1 := Lib.hid (PV_ext HP1.out hX)
      replace HB1 := Lib.hid ((ext_block hX (block_lt HB1.out)).trans HB1.out)
      replace HP2 := Lib.hid (PV_ext HP2.out hX)
      replace HB2 := Lib.hid ((ext_block hX (block_lt HB2.out)).trans HB2.out)
      replace HZB := Lib.hid (rdY_ext HZB.out hX)
      replace Hm1 := Lib.hid (machT_ext Hm1.out hX)
      replace Hm2 := Lib.hid (machT_ext Hm2.out hX)
      clear hX
      have Hm3 := HN
      clear HN HY
      clear HQ HEa
      have a0 : x10.cell? ⟨p1, 0, none⟩ = some (.int .i64 k1) := block_cell HB1.out 0
      have a1 : x10.cell? ⟨p1, 1, none⟩ = some (.int .i64 z1) := block_cell HB1.out 1
      have a2 : x10.cell? ⟨p1, 2, none⟩ = some (.slice A1 q1 d1) := block_cell HB1.out 2
      have al := block_lt HB1.out
      have b0 : x10.cell? ⟨p2, 0, none⟩ = some (.int .i64 k2) := block_cell HB2.out 0
      have b1 : x10.cell? ⟨p2, 1, none⟩ = some (.int .i64 z2) := block_cell HB2.out 1
      have b2 : x10.cell? ⟨p2, 2, none⟩ = some (.slice A2 q2 d2) := block_cell HB2.out 2
      have bl := block_lt HB2.out
      go_wp2_with fail
      clear a0 a1 a2 al b0 b1 b2 bl
      have hBa := heap_alloc_new x10 (.cells #[.int .i64 k1, .int .i64 z1, .slice A1 q1 d1, .int .i64 k2, .int .i64 z2, .slice A2 q2 d2] 30)
      have hEa := ext_alloc (ext_refl x10) (.cells #[.int .i64 k1, .int .i64 z1, .slice A1 q1 d1, .int .i64 k2, .int .i64 z2, .slice A2 q2 d2] 30)
      have HQ := Lib.hid (PV_pair 2 0 (PV_ext HP1.out hEa) (PV_ext HP2.out hEa) hBa)
      have HEa := Lib.hid hEa
      clear hBa hEa
      refine (compile_yes (.node 2 0 [t1, t2]) _ _ HQ.out (chk_pair 2 (.inl rfl) HFB1.out (by omega) (by omega) HFB2.out (by omega) (by omega))).mono ?_
      rintro e x11 ⟨m4, rfl, hM, hx11⟩
      have HN := Lib.hid hM
      have HY := Lib.hid hx11
      clear hM hx11
      have hX := (ext_trans HEa.out HY.out)
      replace HE := Lib.hid (ext_trans HE.out hX)
      replace HP1 := Lib.hid (PV_ext HP1.out hX)
      replace HB1 := Lib.hid ((ext_block hX (block_lt HB1.out)).trans HB1.out)
      replace HP2 := Lib.hid (PV_ext HP2.out hX)
      replace HB2 := Lib.hid ((ext_block hX (block_lt HB2.out)).trans HB2.out)
      replace HZB := Lib.hid (rdY_ext HZB.out hX)
      replace Hm1 := Lib.hid (machT_ext Hm1.out hX)
      replace Hm2 := Lib.hid (machT_ext Hm2.out hX)
      replace Hm3 := Lib.hid (machT_ext Hm3.out hX)
      clear hX
      have Hm4 := HN
      clear HN HY
      clear HQ HEa
      have hbase := HE.out
      clear hbase
      go_wp2
      go_loopw [22, 21] (fun x y wr => ∃ k : Nat, k ≤ U.length + 1 ∧ x = .int .i64 (k : Int) ∧ y = .bool (parts2 t1 t2 U k) ∧ Ext x11 wr) (fun x _ _ => U.length + 1 - (intOf x).toNat)
      case atStart => exact ⟨0, Nat.zero_le _, rfl, rfl, ext_refl _⟩
      case round =>
        rename World => wr
        obtain ⟨k, hk, rfl, rfl, hEr⟩ := hrel
        have HER := Lib.hid hEr
        clear hEr
        by_cases hlt : k ≤ U.length
        · have hki : (k : Int) ≤ (U.length : Int) := by omega
          have hk0 : (0 : Int) ≤ (k : Int) := by omega
          have hkc : k ≤ cb := by omega
          have HC1 := Lib.hid (mtakes_any _ wr m1 t1 (.slice Ab k cb) (U.take k) (machT_ext Hm1.out HER.out) (rdY_take (rdY_ext HZB.out HER.out) hlt _ hkc) (by rw [List.length_take]; omega))
          cases hs : parts2 t1 t2 U k with
          | true =>
            have HS := Lib.hid hs
            clear hs
            go_wp2
            go_roundw
            case rel => exact ⟨k + 1, by omega, by go_num, by rw [parts2_next, HS.out]; rfl, HER.out⟩
            case measure => simp [intOf]; omega
          | false =>
            have HS := Lib.hid hs
            clear hs
            cases h1 : tk t1 (U.take k) with
            | false =>
              rw [h1] at HC1
              have H1 := Lib.hid h1
              clear h1
              go_wp2_with fail
              refine HC1.out.mono ?_
              rintro e y1 ⟨rfl, hy⟩
              have HY := Lib.hid (ext_trans HER.out hy)
              clear hy
              go_wp2
              go_roundw
              case rel => exact ⟨k + 1, by omega, by go_num, by rw [parts2_next, HS.out, H1.out]; rfl, HY.out⟩
              case measure => simp [intOf]; omega
            | true =>
              rw [h1] at HC1
              have H1 := Lib.hid h1
              clear h1
              by_cases hck : cb = k
              · have hce : cb = U.length := by omega
                subst hce
                subst hck
                clear hlt hkc
                go_wp2_with fail
                refine HC1.out.mono ?_
                rintro e y1 ⟨rfl, hy⟩
                have HY := Lib.hid (ext_trans HER.out hy)
                clear hy
                go_wp2_with fail
                refine (mtakes_any _ _ m2 t2 _ [] (machT_ext Hm2.out HY.out) (rdY_nil0 _ _ _) (by simp)).mono ?_
                rintro e y2 ⟨rfl, hy⟩
                have HY2 := Lib.hid (ext_trans HY.out hy)
                clear hy
                obtain ⟨b2, hb2⟩ : ∃ b, b = tk t2 (U.drop U.length) := ⟨_, rfl⟩
                have hb3 := hb2
                rw [List.drop_length] at hb3
                rw [← hb3]
                have HB2' := Lib.hid hb2
                clear hb2 hb3
                go_wp2
                go_roundw
                case rel => exact ⟨U.length + 1, by omega, by go_num, by rw [parts2_next, HS.out, H1.out, ← HB2'.out]; simp, HY2.out⟩
                case measure => simp [intOf]
              · go_wp2_with fail
                refine HC1.out.mono ?_
                rintro e y1 ⟨rfl, hy⟩
                have HY := Lib.hid (ext_trans HER.out hy)
                clear hy
                have hf := rdY_from (k := k) (rdY_ext HZB.out HY.out) hlt
                rw [if_neg hck] at hf
                have HFF := Lib.hid hf
                clear hf
                go_wp2_with fail
                refine (mtakes_any _ _ m2 t2 _ (U.drop k) (machT_ext Hm2.out HY.out) HFF.out (by rw [List.length_drop]; omega)).mono ?_
                rintro e y2 ⟨rfl, hy⟩
                have HY2 := Lib.hid (ext_trans HY.out hy)
                clear hy
                obtain ⟨b2, hb2⟩ : ∃ b, b = tk t2 (U.drop k) := ⟨_, rfl⟩
                rw [← hb2]
                have HB2' := Lib.hid hb2
                clear hb2
                go_wp2
                go_roundw
                case rel => exact ⟨k + 1, by omega, by go_num, by rw [parts2_next, HS.out, H1.out, ← HB2'.out]; simp, HY2.out⟩
                case measure => simp [intOf]; omega
        · obtain rfl : k = U.length + 1 := by omega
          have hki : ¬ ((U.length + 1 : Nat) : Int) ≤ (U.length : Int) := by omega
          obtain ⟨ss, hss⟩ : ∃ b, b = parts2 t1 t2 U (U.length + 1) := ⟨_, rfl⟩
          rw [← hss]
          have HSS := Lib.hid (hss.trans (seq_parts2 t1 t2 U).symm)
          have hbs := beq_self ss
          clear hss
          go_wp2_with fail
          refine (mtakes_any _ _ m3 (.node 3 0 [t1, t2]) _ U (machT_ext Hm3.out HER.out) (rdY_ext HZB.out HER.out) (by omega)).mono ?_
          rintro e y1 ⟨rfl, hy⟩
          rw [alt_tk]
          have HY1 := Lib.hid (ext_trans HER.out hy)
          clear hy
          have HC1 := Lib.hid (mtakes_any _ y1 m1 t1 _ U (machT_ext Hm1.out HY1.out) (rdY_ext HZB.out HY1.out) (by omega))
          cases h1 : tk t1 U with
          | true =>
            rw [h1] at HC1
            clear h1
            rw [Bool.true_or]
            go_wp2_with fail
            refine HC1.out.mono ?_
            rintro e y2 ⟨rfl, hy⟩
            have HY2 := Lib.hid (ext_trans HY1.out hy)
            clear hy
            go_wp2_with fail
            refine (mtakes_any _ _ m4 (.node 2 0 [t1, t2]) _ U (machT_ext Hm4.out HY2.out) (rdY_ext HZB.out HY2.out) (by omega)).mono ?_
            rintro e y3 ⟨rfl, hy⟩
            rw [← HSS.out]
            have HY3 := Lib.hid (ext_trans HY2.out hy)
            clear hy
            go_wp2
            refine bodyPost_ret (results_tmp rfl _ _ _) rfl ?_
            exact ⟨rfl, ext_trans HE.out HY3.out⟩
          | false =>
            rw [h1] at HC1
            clear h1
            rw [Bool.false_or]
            obtain ⟨b2, hb2⟩ : ∃ b, b = tk t2 U := ⟨_, rfl⟩
            rw [← hb2]
            have HB2' := Lib.hid hb2
            have hbb := beq_self b2
            clear hb2
            go_wp2_with fail
            refine HC1.out.mono ?_
            rintro e y2 ⟨rfl, hy⟩
            have HY2 := Lib.hid (ext_trans HY1.out hy)
            clear hy
            go_wp2_with fail
            refine (mtakes_any _ _ m2 t2 _ U (machT_ext Hm2.out HY2.out) (rdY_ext HZB.out HY2.out) (by omega)).mono ?_
            rintro e y3 ⟨rfl, hy⟩
            rw [← HB2'.out]
            have HY3 := Lib.hid (ext_trans HY2.out hy)
            clear hy
            go_wp2_with fail
            refine (mtakes_any _ _ m4 (.node 2 0 [t1, t2]) _ U (machT_ext Hm4.out HY3.out) (rdY_ext HZB.out HY3.out) (by omega)).mono ?_
            rintro e y4 ⟨rfl, hy⟩
            rw [← HSS.out]
            have HY4 := Lib.hid (ext_trans HY3.out hy)
            clear hy
            go_wp2
            refine bodyPost_ret (results_tmp rfl _ _ _) rfl ?_
            exact ⟨rfl, ext_trans HE.out HY4.out⟩
  · have h5i : ¬ (5 : Int) < (M1.length : Int) := by omega
    have HV1 := HV1'
    have HL1 : Hid (M1.length ≤ 5) := Lib.hid (by omega)
    by_cases g5 : 5 < M2.length
    · have g5i : (5 : Int) < (M2.length : Int) := by omega
      have g5n : 5 ≤ c2 := by omega
      have HV2 := Lib.hid (rdNd_take HV2'.out (show 5 ≤ M2.length by omega) c2 g5n)
      have HL2 : Hid ((M2.take 5).length ≤ 5) := Lib.hid (by rw [List.length_take]; omega)
      go_wp2_with fail
      refine (fix_any _ M1 _ HV1.out).mono ?_
      rintro e x1 ⟨L1', u1, rfl, hr, hF, hl, hx1⟩
      have HR := Lib.hid hr
      have HF := Lib.hid hF
      have hl1 : L1'.length ≤ 5 := by have := HL1.out; omega
      have Hx1 := Lib.hid hx1
      clear hr hF hl hx1
      have hX := Hx1.out
      replace HE := Lib.hid (ext_trans HE.out hX)
      replace HV2 := Lib.hid (rdNd_ext HV2.out hX)
      replace HBY := Lib.hid (rdB_ext HBY.out hX)
      clear hX
      go_wp2_with fail
      refine (tree_fix 5 (by decide) (by decide) u1 L1' _ HR.out HF.out hl1).mono ?_
      rintro e x2 ⟨rb1, n1, t1, k1, z1, A1, q1, d1, rfl, -, hfit, -, hpv, hx2⟩
      obtain ⟨hfb, hs1, hd1⟩ := fit_small hfit (by decide)
      have HFB1 := Lib.hid hfb
      have HCK1 := Lib.hid ((fit_chk hfit (by decide)).2.2 (by decide))
      have HP1 := Lib.hid hpv
      have Hx2 := Lib.hid hx2
      clear hfit hfb hpv hx2 hl1
      have hX := Hx2.out
      replace HE := Lib.hid (ext_trans HE.out hX)
      replace HV2 := Lib.hid (rdNd_ext HV2.out hX)
      replace HBY := Lib.hid (rdB_ext HBY.out hX)
      clear hX
      clear HR HF
      go_wp2_with fail
      have hEa := ext_alloc (ext_refl x2) (.cells #[.int .i64 k1, .int .i64 z1, .slice A1 q1 d1] 30)
      have hBa := heap_alloc_new x2 (.cells #[.int .i64 k1, .int .i64 z1, .slice A1 q1 d1] 30)
      obtain ⟨x3, hw⟩ : ∃ W, W = x2.alloc (.cells #[.int .i64 k1, .int .i64 z1, .slice A1 q1 d1] 30) := ⟨_, rfl⟩
      obtain ⟨p1, hp⟩ : ∃ p, p = x2.heap.size := ⟨_, rfl⟩
      rw [← hw] at hEa hBa ⊢
      rw [← hp] at hBa ⊢
      clear hw hp
      have HB1 := Lib.hid hBa
      have HEa := Lib.hid hEa
      clear hBa hEa
      have hX := HEa.out
      replace HE := Lib.hid (ext_trans HE.out hX)
      replace HV2 := Lib.hid (rdNd_ext HV2.out hX)
      replace HBY := Lib.hid (rdB_ext HBY.out hX)
      replace HP1 := Lib.hid (PV_ext HP1.out hX)
      clear hX
      clear HEa
      refine (fix_any _ (M2.take 5) _ HV2.out).mono ?_
      rintro e x4 ⟨L2', u2, rfl, hr, hF, hl, hx4⟩
      have HR := Lib.hid hr
      have HF := Lib.hid hF
      have hl2 : L2'.length ≤ 5 := by have := HL2.out; omega
      have Hx4 := Lib.hid hx4
      clear hr hF hl hx4
      have hX := Hx4.out
      replace HE := Lib.hid (ext_trans HE.out hX)
      replace HV2 := Lib.hid (rdNd_ext HV2.out hX)
      replace HBY := Lib.hid (rdB_ext HBY.out hX)
      replace HP1 := Lib.hid (PV_ext HP1.out hX)
      replace HB1 := Lib.hid ((ext_block hX (block_lt HB1.out)).trans HB1.out)
      clear hX
      go_wp2_with fail
      refine (tree_fix 5 (by decide) (by decide) u2 L2' _ HR.out HF.out hl2).mono ?_
      rintro e x5 ⟨rb2, n2, t2, k2, z2, A2, q2, d2, rfl, -, hfit, -, hpv, hx5⟩
      obtain ⟨hfb, hs2, hd2⟩ := fit_small hfit (by decide)
      have HFB2 := Lib.hid hfb
      have HCK2 := Lib.hid ((fit_chk hfit (by decide)).2.2 (by decide))
      have HP2 := Lib.hid hpv
      have Hx5 := Lib.hid hx5
      clear hfit hfb hpv hx5 hl2
      have hX := Hx5.out
      replace HE := Lib.hid (ext_trans HE.out hX)
      replace HV2 := Lib.hid (rdNd_ext HV2.out hX)
      replace HBY := Lib.hid (rdB_ext HBY.out hX)
      replace HP1 := Lib.hid (PV_ext HP1.out hX)
      replace HB1 := Lib.hid ((ext_block hX (block_lt HB1.out)).trans HB1.out)
      clear hX
      clear HR HF
      go_wp2_with fail
      have hEa := ext_alloc (ext_refl x5) (.cells #[.int .i64 k2, .int .i64 z2, .slice A2 q2 d2] 30)
      have hBa := heap_alloc_new x5 (.cells #[.int .i64 k2, .int .i64 z2, .slice A2 q2 d2] 30)
      obtain ⟨x6, hw⟩ : ∃ W, W = x5.alloc (.cells #[.int .i64 k2, .int .i64 z2, .slice A2 q2 d2] 30) := ⟨_, rfl⟩
      obtain ⟨p2, hp⟩ : ∃ p, p = x5.heap.size := ⟨_, rfl⟩
      rw [← hw] at hEa hBa ⊢
      rw [← hp] at hBa ⊢
      clear hw hp
      have HB2 := Lib.hid hBa
      have HEa := Lib.hid hEa
      clear hBa hEa
      have hX := HEa.out
      replace HE := Lib.hid (ext_trans HE.out hX)
      replace HV2 := Lib.hid (rdNd_ext HV2.out hX)
      replace HBY := Lib.hid (rdB_ext HBY.out hX)
      replace HP1 := Lib.hid (PV_ext HP1.out hX)
      replace HB1 := Lib.hid ((ext_block hX (block_lt HB1.out)).trans HB1.out)
      replace HP2 := Lib.hid (PV_ext HP2.out hX)
      clear hX
      clear HEa
      refine (word_any vl B _ HBY.out).mono ?_
      rintro e x7 ⟨U, va, vb, rfl, hza, hzb, hU5, -, hx7⟩
      obtain ⟨Ab, cb, rfl⟩ := rowE_form hzb.1
      have hcb := (rowE_cap hzb.1).2
      have HZB := Lib.hid (rdY_row hzb.1)
      have Hx7 := Lib.hid hx7
      clear hza hzb hx7
      have hX := Hx7.out
      replace HE := Lib.hid (ext_trans HE.out hX)
      replace HP1 := Lib.hid (PV_ext HP1.out hX)
      replace HB1 := Lib.hid ((ext_block hX (block_lt HB1.out)).trans HB1.out)
      replace HP2 := Lib.hid (PV_ext HP2.out hX)
      replace HB2 := Lib.hid ((ext_block hX (block_lt HB2.out)).trans HB2.out)
      clear hX
      have a0 : x7.cell? ⟨p1, 0, none⟩ = some (.int .i64 k1) := block_cell HB1.out 0
      have a1 : x7.cell? ⟨p1, 1, none⟩ = some (.int .i64 z1) := block_cell HB1.out 1
      have a2 : x7.cell? ⟨p1, 2, none⟩ = some (.slice A1 q1 d1) := block_cell HB1.out 2
      have al := block_lt HB1.out
      go_wp2_with fail
      clear a0 a1 a2 al
      refine (compile_yes t1 _ _ HP1.out HCK1.out).mono ?_
      rintro e x8 ⟨m1, rfl, hM, hx8⟩
      have HN := Lib.hid hM
      have HY := Lib.hid hx8
      clear hM hx8
      have hX := HY.out
      replace HE := Lib.hid (ext_trans HE.out hX)
      replace HP1 := Lib.hid (PV_ext HP1.out hX)
      replace HB1 := Lib.hid ((ext_block hX (block_lt HB1.out)).trans HB1.out)
      replace HP2 := Lib.hid (PV_ext HP2.out hX)
      replace HB2 := Lib.hid ((ext_block hX (block_lt HB2.out)).trans HB2.out)
      replace HZB := Lib.hid (rdY_ext HZB.out hX)
      clear hX
      have Hm1 := HN
      clear HN HY
      have b0 : x8.cell? ⟨p2, 0, none⟩ = some (.int .i64 k2) := block_cell HB2.out 0
      have b1 : x8.cell? ⟨p2, 1, none⟩ = some (.int .i64 z2) := block_cell HB2.out 1
      have b2 : x8.cell? ⟨p2, 2, none⟩ = some (.slice A2 q2 d2) := block_cell HB2.out 2
      have bl := block_lt HB2.out
      go_wp2_with fail
      clear b0 b1 b2 bl
      refine (compile_yes t2 _ _ HP2.out HCK2.out).mono ?_
      rintro e x9 ⟨m2, rfl, hM, hx9⟩
      have HN := Lib.hid hM
      have HY := Lib.hid hx9
      clear hM hx9
      have hX := HY.out
      replace HE := Lib.hid (ext_trans HE.out hX)
      replace HP1 := Lib.hid (PV_ext HP1.out hX)
      replace HB1 := Lib.hid ((ext_block hX (block_lt HB1.out)).trans HB1.out)
      replace HP2 := Lib.hid (PV_ext HP2.out hX)
      replace HB2 := Lib.hid ((ext_block hX (block_lt HB2.out)).trans HB2.out)
      replace HZB := Lib.hid (rdY_ext HZB.out hX)
      replace Hm1 := Lib.hid (machT_ext Hm1.out hX)
      clear hX
      have Hm2 := HN
      clear HN HY
      have a0 : x9.cell? ⟨p1, 0, none⟩ = some (.int .i64 k1) := block_cell HB1.out 0
      have a1 : x9.cell? ⟨p1, 1, none⟩ = some (.int .i64 z1) := block_cell HB1.out 1
      have a2 : x9.cell? ⟨p1, 2, none⟩ = some (.slice A1 q1 d1) := block_cell HB1.out 2
      have al := block_lt HB1.out
      have b0 : x9.cell? ⟨p2, 0, none⟩ = some (.int .i64 k2) := block_cell HB2.out 0
      have b1 : x9.cell? ⟨p2, 1, none⟩ = some (.int .i64 z2) := block_cell HB2.out 1
      have b2 : x9.cell? ⟨p2, 2, none⟩ = some (.slice A2 q2 d2) := block_cell HB2.out 2
      have bl := block_lt HB2.out
      go_wp2_with fail
      clear a0 a1 a2 al b0 b1 b2 bl
      have hBa := heap_alloc_new x9 (.cells #[.int .i64 k1, .int .i64 z1, .slice A1 q1 d1, .int .i64 k2, .int .i64 z2, .slice A2 q2 d2] 30)
      have hEa := ext_alloc (ext_refl x9) (.cells #[.int .i64 k1, .int .i64 z1, .slice A1 q1 d1, .int .i64 k2, .int .i64 z2, .slice A2 q2 d2] 30)
      have HQ := Lib.hid (PV_pair 3 0 (PV_ext HP1.out hEa) (PV_ext HP2.out hEa) hBa)
      have HEa := Lib.hid hEa
      clear hBa hEa
      refine (compile_yes (.node 3 0 [t1, t2]) _ _ HQ.out (chk_pair 3 (.inr rfl) HFB1.out (by omega) (by omega) HFB2.out (by omega) (by omega))).mono ?_
      rintro e x10 ⟨m3, rfl, hM, hx10⟩
      have HN := Lib.hid hM
      have HY := Lib.hid hx10
      clear hM hx10
      have hX := (ext_trans HEa.out HY.out)
      replace HE := Lib.hid (ext_trans HE.out hX)
      replace HP1 := Lib.hid (PV_ext HP1.out hX)
      replace HB1 := Lib.hid ((ext_block hX (block_lt HB1.out)).trans HB1.out)
      replace HP2 := Lib.hid (PV_ext HP2.out hX)
      replace HB2 := Lib.hid ((ext_block hX (block_lt HB2.out)).trans HB2.out)
      replace HZB := Lib.hid (rdY_ext HZB.out hX)
      replace Hm1 := Lib.hid (machT_ext Hm1.out hX)
      replace Hm2 := Lib.hid (machT_ext Hm2.out hX)
      clear hX
      have Hm3 := HN
      clear HN HY
      clear HQ HEa
      have a0 : x10.cell? ⟨p1, 0, none⟩ = some (.int .i64 k1) := block_cell HB1.out 0
      have a1 : x10.cell? ⟨p1, 1, none⟩ = some (.int .i64 z1) := block_cell HB1.out 1
      have a2 : x10.cell? ⟨p1, 2, none⟩ = some (.slice A1 q1 d1) := block_cell HB1.out 2
      have al := block_lt HB1.out
      have b0 : x10.cell? ⟨p2, 0, none⟩ = some (.int .i64 k2) := block_cell HB2.out 0
      have b1 : x10.cell? ⟨p2, 1, none⟩ = some (.int .i64 z2) := block_cell HB2.out 1
      have b2 : x10.cell? ⟨p2, 2, none⟩ = some (.slice A2 q2 d2) := block_cell HB2.out 2
      have bl := block_lt HB2.out
      go_wp2_with fail
      clear a0 a1 a2 al b0 b1 b2 bl
      have hBa := heap_alloc_new x10 (.cells #[.int .i64 k1, .int .i64 z1, .slice A1 q1 d1, .int .i64 k2, .int .i64 z2, .slice A2 q2 d2] 30)
      have hEa := ext_alloc (ext_refl x10) (.cells #[.int .i64 k1, .int .i64 z1, .slice A1 q1 d1, .int .i64 k2, .int .i64 z2, .slice A2 q2 d2] 30)
      have HQ := Lib.hid (PV_pair 2 0 (PV_ext HP1.out hEa) (PV_ext HP2.out hEa) hBa)
      have HEa := Lib.hid hEa
      clear hBa hEa
      refine (compile_yes (.node 2 0 [t1, t2]) _ _ HQ.out (chk_pair 2 (.inl rfl) HFB1.out (by omega) (by omega) HFB2.out (by omega) (by omega))).mono ?_
      rintro e x11 ⟨m4, rfl, hM, hx11⟩
      have HN := Lib.hid hM
      have HY := Lib.hid hx11
      clear hM hx11
      have hX := (ext_trans HEa.out HY.out)
      replace HE := Lib.hid (ext_trans HE.out hX)
      replace HP1 := Lib.hid (PV_ext HP1.out hX)
      replace HB1 := Lib.hid ((ext_block hX (block_lt HB1.out)).trans HB1.out)
      replace HP2 := Lib.hid (PV_ext HP2.out hX)
      replace HB2 := Lib.hid ((ext_block hX (block_lt HB2.out)).trans HB2.out)
      replace HZB := Lib.hid (rdY_ext HZB.out hX)
      replace Hm1 := Lib.hid (machT_ext Hm1.out hX)
      replace Hm2 := Lib.hid (machT_ext Hm2.out hX)
      replace Hm3 := Lib.hid (machT_ext Hm3.out hX)
      clear hX
      have Hm4 := HN
      clear HN HY
      clear HQ HEa
      have hbase := HE.out
      clear hbase
      go_wp2
      go_loopw [22, 21] (fun x y wr => ∃ k : Nat, k ≤ U.length + 1 ∧ x = .int .i64 (k : Int) ∧ y = .bool (parts2 t1 t2 U k) ∧ Ext x11 wr) (fun x _ _ => U.length + 1 - (intOf x).toNat)
      case atStart => exact ⟨0, Nat.zero_le _, rfl, rfl, ext_refl _⟩
      case round =>
        rename World => wr
        obtain ⟨k, hk, rfl, rfl, hEr⟩ := hrel
        have HER := Lib.hid hEr
        clear hEr
        by_cases hlt : k ≤ U.length
        · have hki : (k : Int) ≤ (U.length : Int) := by omega
          have hk0 : (0 : Int) ≤ (k : Int) := by omega
          have hkc : k ≤ cb := by omega
          have HC1 := Lib.hid (mtakes_any _ wr m1 t1 (.slice Ab k cb) (U.take k) (machT_ext Hm1.out HER.out) (rdY_take (rdY_ext HZB.out HER.out) hlt _ hkc) (by rw [List.length_take]; omega))
          cases hs : parts2 t1 t2 U k with
          | true =>
            have HS := Lib.hid hs
            clear hs
            go_wp2
            go_roundw
            case rel => exact ⟨k + 1, by omega, by go_num, by rw [parts2_next, HS.out]; rfl, HER.out⟩
            case measure => simp [intOf]; omega
          | false =>
            have HS := Lib.hid hs
            clear hs
            cases h1 : tk t1 (U.take k) with
            | false =>
              rw [h1] at HC1
              have H1 := Lib.hid h1
              clear h1
              go_wp2_with fail
              refine HC1.out.mono ?_
              rintro e y1 ⟨rfl, hy⟩
              have HY := Lib.hid (ext_trans HER.out hy)
              clear hy
              go_wp2
              go_roundw
              case rel => exact ⟨k + 1, by omega, by go_num, by rw [parts2_next, HS.out, H1.out]; rfl, HY.out⟩
              case measure => simp [intOf]; omega
            | true =>
              rw [h1] at HC1
              have H1 := Lib.hid h1
              clear h1
              by_cases hck : cb = k
              · have hce : cb = U.length := by omega
                subst hce
                subst hck
                clear hlt hkc
                go_wp2_with fail
                refine HC1.out.mono ?_
                rintro e y1 ⟨rfl, hy⟩
                have HY := Lib.hid (ext_trans HER.out hy)
                clear hy
                go_wp2_with fail
                refine (mtakes_any _ _ m2 t2 _ [] (machT_ext Hm2.out HY.out) (rdY_nil0 _ _ _) (by simp)).mono ?_
                rintro e y2 ⟨rfl, hy⟩
                have HY2 := Lib.hid (ext_trans HY.out hy)
                clear hy
                obtain ⟨b2, hb2⟩ : ∃ b, b = tk t2 (U.drop U.length) := ⟨_, rfl⟩
                have hb3 := hb2
                rw [List.drop_length] at hb3
                rw [← hb3]
                have HB2' := Lib.hid hb2
                clear hb2 hb3
                go_wp2
                go_roundw
                case rel => exact ⟨U.length + 1, by omega, by go_num, by rw [parts2_next, HS.out, H1.out, ← HB2'.out]; simp, HY2.out⟩
                case measure => simp [intOf]
              · go_wp2_with fail
                refine HC1.out.mono ?_
                rintro e y1 ⟨rfl, hy⟩
                have HY := Lib.hid (ext_trans HER.out hy)
                clear hy
                have hf := rdY_from (k := k) (rdY_ext HZB.out HY.out) hlt
                rw [if_neg hck] at hf
                have HFF := Lib.hid hf
                clear hf
                go_wp2_with fail
                refine (mtakes_any _ _ m2 t2 _ (U.drop k) (machT_ext Hm2.out HY.out) HFF.out (by rw [List.length_drop]; omega)).mono ?_
                rintro e y2 ⟨rfl, hy⟩
                have HY2 := Lib.hid (ext_trans HY.out hy)
                clear hy
                obtain ⟨b2, hb2⟩ : ∃ b, b = tk t2 (U.drop k) := ⟨_, rfl⟩
                rw [← hb2]
                have HB2' := Lib.hid hb2
                clear hb2
                go_wp2
                go_roundw
                case rel => exact ⟨k + 1, by omega, by go_num, by rw [parts2_next, HS.out, H1.out, ← HB2'.out]; simp, HY2.out⟩
                case measure => simp [intOf]; omega
        · obtain rfl : k = U.length + 1 := by omega
          have hki : ¬ ((U.length + 1 : Nat) : Int) ≤ (U.length : Int) := by omega
          obtain ⟨ss, hss⟩ : ∃ b, b = parts2 t1 t2 U (U.length + 1) := ⟨_, rfl⟩
          rw [← hss]
          have HSS := Lib.hid (hss.trans (seq_parts2 t1 t2 U).symm)
          have hbs := beq_self ss
          clear hss
          go_wp2_with fail
          refine (mtakes_any _ _ m3 (.node 3 0 [t1, t2]) _ U (machT_ext Hm3.out HER.out) (rdY_ext HZB.out HER.out) (by omega)).mono ?_
          rintro e y1 ⟨rfl, hy⟩
          rw [alt_tk]
          have HY1 := Lib.hid (ext_trans HER.out hy)
          clear hy
          have HC1 := Lib.hid (mtakes_any _ y1 m1 t1 _ U (machT_ext Hm1.out HY1.out) (rdY_ext HZB.out HY1.out) (by omega))
          cases h1 : tk t1 U with
          | true =>
            rw [h1] at HC1
            clear h1
            rw [Bool.true_or]
            go_wp2_with fail
            refine HC1.out.mono ?_
            rintro e y2 ⟨rfl, hy⟩
            have HY2 := Lib.hid (ext_trans HY1.out hy)
            clear hy
            go_wp2_with fail
            refine (mtakes_any _ _ m4 (.node 2 0 [t1, t2]) _ U (machT_ext Hm4.out HY2.out) (rdY_ext HZB.out HY2.out) (by omega)).mono ?_
            rintro e y3 ⟨rfl, hy⟩
            rw [← HSS.out]
            have HY3 := Lib.hid (ext_trans HY2.out hy)
            clear hy
            go_wp2
            refine bodyPost_ret (results_tmp rfl _ _ _) rfl ?_
            exact ⟨rfl, ext_trans HE.out HY3.out⟩
          | false =>
            rw [h1] at HC1
            clear h1
            rw [Bool.false_or]
            obtain ⟨b2, hb2⟩ : ∃ b, b = tk t2 U := ⟨_, rfl⟩
            rw [← hb2]
            have HB2' := Lib.hid hb2
            have hbb := beq_self b2
            clear hb2
            go_wp2_with fail
            refine HC1.out.mono ?_
            rintro e y2 ⟨rfl, hy⟩
            have HY2 := Lib.hid (ext_trans HY1.out hy)
            clear hy
            go_wp2_with fail
            refine (mtakes_any _ _ m2 t2 _ U (machT_ext Hm2.out HY2.out) (rdY_ext HZB.out HY2.out) (by omega)).mono ?_
            rintro e y3 ⟨rfl, hy⟩
            rw [← HB2'.out]
            have HY3 := Lib.hid (ext_trans HY2.out hy)
            clear hy
            go_wp2_with fail
            refine (mtakes_any _ _ m4 (.node 2 0 [t1, t2]) _ U (machT_ext Hm4.out HY3.out) (rdY_ext HZB.out HY3.out) (by omega)).mono ?_
            rintro e y4 ⟨rfl, hy⟩
            rw [← HSS.out]
            have HY4 := Lib.hid (ext_trans HY3.out hy)
            clear hy
            go_wp2
            refine bodyPost_ret (results_tmp rfl _ _ _) rfl ?_
            exact ⟨rfl, ext_trans HE.out HY4.out⟩
    · have g5i : ¬ (5 : Int) < (M2.length : Int) := by omega
      have HV2 := HV2'
      have HL2 : Hid (M2.length ≤ 5) := Lib.hid (by omega)
      go_wp2_with fail
      refine (fix_any _ M1 _ HV1.out).mono ?_
      rintro e x1 ⟨L1', u1, rfl, hr, hF, hl, hx1⟩
      have HR := Lib.hid hr
      have HF := Lib.hid hF
      have hl1 : L1'.length ≤ 5 := by have := HL1.out; omega
      have Hx1 := Lib.hid hx1
      clear hr hF hl hx1
      have hX := Hx1.out
      replace HE := Lib.hid (ext_trans HE.out hX)
      replace HV2 := Lib.hid (rdNd_ext HV2.out hX)
      replace HBY := Lib.hid (rdB_ext HBY.out hX)
      clear hX
      go_wp2_with fail
      refine (tree_fix 5 (by decide) (by decide) u1 L1' _ HR.out HF.out hl1).mono ?_
      rintro e x2 ⟨rb1, n1, t1, k1, z1, A1, q1, d1, rfl, -, hfit, -, hpv, hx2⟩
      obtain ⟨hfb, hs1, hd1⟩ := fit_small hfit (by decide)
      have HFB1 := Lib.hid hfb
      have HCK1 := Lib.hid ((fit_chk hfit (by decide)).2.2 (by decide))
      have HP1 := Lib.hid hpv
      have Hx2 := Lib.hid hx2
      clear hfit hfb hpv hx2 hl1
      have hX := Hx2.out
      replace HE := Lib.hid (ext_trans HE.out hX)
      replace HV2 := Lib.hid (rdNd_ext HV2.out hX)
      replace HBY := Lib.hid (rdB_ext HBY.out hX)
      clear hX
      clear HR HF
      go_wp2_with fail
      have hEa := ext_alloc (ext_refl x2) (.cells #[.int .i64 k1, .int .i64 z1, .slice A1 q1 d1] 30)
      have hBa := heap_alloc_new x2 (.cells #[.int .i64 k1, .int .i64 z1, .slice A1 q1 d1] 30)
      obtain ⟨x3, hw⟩ : ∃ W, W = x2.alloc (.cells #[.int .i64 k1, .int .i64 z1, .slice A1 q1 d1] 30) := ⟨_, rfl⟩
      obtain ⟨p1, hp⟩ : ∃ p, p = x2.heap.size := ⟨_, rfl⟩
      rw [← hw] at hEa hBa ⊢
      rw [← hp] at hBa ⊢
      clear hw hp
      have HB1 := Lib.hid hBa
      have HEa := Lib.hid hEa
      clear hBa hEa
      have hX := HEa.out
      replace HE := Lib.hid (ext_trans HE.out hX)
      replace HV2 := Lib.hid (rdNd_ext HV2.out hX)
      replace HBY := Lib.hid (rdB_ext HBY.out hX)
      replace HP1 := Lib.hid (PV_ext HP1.out hX)
      clear hX
      clear HEa
      refine (fix_any _ M2 _ HV2.out).mono ?_
      rintro e x4 ⟨L2', u2, rfl, hr, hF, hl, hx4⟩
      have HR := Lib.hid hr
      have HF := Lib.hid hF
      have hl2 : L2'.length ≤ 5 := by have := HL2.out; omega
      have Hx4 := Lib.hid hx4
      clear hr hF hl hx4
      have hX := Hx4.out
      replace HE := Lib.hid (ext_trans HE.out hX)
      replace HV2 := Lib.hid (rdNd_ext HV2.out hX)
      replace HBY := Lib.hid (rdB_ext HBY.out hX)
      replace HP1 := Lib.hid (PV_ext HP1.out hX)
      replace HB1 := Lib.hid ((ext_block hX (block_lt HB1.out)).trans HB1.out)
      clear hX
      go_wp2_with fail
      refine (tree_fix 5 (by decide) (by decide) u2 L2' _ HR.out HF.out hl2).mono ?_
      rintro e x5 ⟨rb2, n2, t2, k2, z2, A2, q2, d2, rfl, -, hfit, -, hpv, hx5⟩
      obtain ⟨hfb, hs2, hd2⟩ := fit_small hfit (by decide)
      have HFB2 := Lib.hid hfb
      have HCK2 := Lib.hid ((fit_chk hfit (by decide)).2.2 (by decide))
      have HP2 := Lib.hid hpv
      have Hx5 := Lib.hid hx5
      clear hfit hfb hpv hx5 hl2
      have hX := Hx5.out
      replace HE := Lib.hid (ext_trans HE.out hX)
      replace HV2 := Lib.hid (rdNd_ext HV2.out hX)
      replace HBY := Lib.hid (rdB_ext HBY.out hX)
      replace HP1 := Lib.hid (PV_ext HP1.out hX)
      replace HB1 := Lib.hid ((ext_block hX (block_lt HB1.out)).trans HB1.out)
      clear hX
      clear HR HF
      go_wp2_with fail
      have hEa := ext_alloc (ext_refl x5) (.cells #[.int .i64 k2, .int .i64 z2, .slice A2 q2 d2] 30)
      have hBa := heap_alloc_new x5 (.cells #[.int .i64 k2, .int .i64 z2, .slice A2 q2 d2] 30)
      obtain ⟨x6, hw⟩ : ∃ W, W = x5.alloc (.cells #[.int .i64 k2, .int .i64 z2, .slice A2 q2 d2] 30) := ⟨_, rfl⟩
      obtain ⟨p2, hp⟩ : ∃ p, p = x5.heap.size := ⟨_, rfl⟩
      rw [← hw] at hEa hBa ⊢
      rw [← hp] at hBa ⊢
      clear hw hp
      have HB2 := Lib.hid hBa
      have HEa := Lib.hid hEa
      clear hBa hEa
      have hX := HEa.out
      replace HE := Lib.hid (ext_trans HE.out hX)
      replace HV2 := Lib.hid (rdNd_ext HV2.out hX)
      replace HBY := Lib.hid (rdB_ext HBY.out hX)
      replace HP1 := Lib.hid (PV_ext HP1.out hX)
      replace HB1 := Lib.hid ((ext_block hX (block_lt HB1.out)).trans HB1.out)
      replace HP2 := Lib.hid (PV_ext HP2.out hX)
      clear hX
      clear HEa
      refine (word_any vl B _ HBY.out).mono ?_
      rintro e x7 ⟨U, va, vb, rfl, hza, hzb, hU5, -, hx7⟩
      obtain ⟨Ab, cb, rfl⟩ := rowE_form hzb.1
      have hcb := (rowE_cap hzb.1).2
      have HZB := Lib.hid (rdY_row hzb.1)
      have Hx7 := Lib.hid hx7
      clear hza hzb hx7
      have hX := Hx7.out
      replace HE := Lib.hid (ext_trans HE.out hX)
      replace HP1 := Lib.hid (PV_ext HP1.out hX)
      replace HB1 := Lib.hid ((ext_block hX (block_lt HB1.out)).trans HB1.out)
      replace HP2 := Lib.hid (PV_ext HP2.out hX)
      replace HB2 := Lib.hid ((ext_block hX (block_lt HB2.out)).trans HB2.out)
      clear hX
      have a0 : x7.cell? ⟨p1, 0, none⟩ = some (.int .i64 k1) := block_cell HB1.out 0
      have a1 : x7.cell? ⟨p1, 1, none⟩ = some (.int .i64 z1) := block_cell HB1.out 1
      have a2 : x7.cell? ⟨p1, 2, none⟩ = some (.slice A1 q1 d1) := block_cell HB1.out 2
      have al := block_lt HB1.out
      go_wp2_with fail
      clear a0 a1 a2 al
      refine (compile_yes t1 _ _ HP1.out HCK1.out).mono ?_
      rintro e x8 ⟨m1, rfl, hM, hx8⟩
      have HN := Lib.hid hM
      have HY := Lib.hid hx8
      clear hM hx8
      have hX := HY.out
      replace HE := Lib.hid (ext_trans HE.out hX)
      replace HP1 := Lib.hid (PV_ext HP1.out hX)
      replace HB1 := Lib.hid ((ext_block hX (block_lt HB1.out)).trans HB1.out)
      replace HP2 := Lib.hid (PV_ext HP2.out hX)
      replace HB2 := Lib.hid ((ext_block hX (block_lt HB2.out)).trans HB2.out)
      replace HZB := Lib.hid (rdY_ext HZB.out hX)
      clear hX
      have Hm1 := HN
      clear HN HY
      have b0 : x8.cell? ⟨p2, 0, none⟩ = some (.int .i64 k2) := block_cell HB2.out 0
      have b1 : x8.cell? ⟨p2, 1, none⟩ = some (.int .i64 z2) := block_cell HB2.out 1
      have b2 : x8.cell? ⟨p2, 2, none⟩ = some (.slice A2 q2 d2) := block_cell HB2.out 2
      have bl := block_lt HB2.out
      go_wp2_with fail
      clear b0 b1 b2 bl
      refine (compile_yes t2 _ _ HP2.out HCK2.out).mono ?_
      rintro e x9 ⟨m2, rfl, hM, hx9⟩
      have HN := Lib.hid hM
      have HY := Lib.hid hx9
      clear hM hx9
      have hX := HY.out
      replace HE := Lib.hid (ext_trans HE.out hX)
      replace HP1 := Lib.hid (PV_ext HP1.out hX)
      replace HB1 := Lib.hid ((ext_block hX (block_lt HB1.out)).trans HB1.out)
      replace HP2 := Lib.hid (PV_ext HP2.out hX)
      replace HB2 := Lib.hid ((ext_block hX (block_lt HB2.out)).trans HB2.out)
      replace HZB := Lib.hid (rdY_ext HZB.out hX)
      replace Hm1 := Lib.hid (machT_ext Hm1.out hX)
      clear hX
      have Hm2 := HN
      clear HN HY
      have a0 : x9.cell? ⟨p1, 0, none⟩ = some (.int .i64 k1) := block_cell HB1.out 0
      have a1 : x9.cell? ⟨p1, 1, none⟩ = some (.int .i64 z1) := block_cell HB1.out 1
      have a2 : x9.cell? ⟨p1, 2, none⟩ = some (.slice A1 q1 d1) := block_cell HB1.out 2
      have al := block_lt HB1.out
      have b0 : x9.cell? ⟨p2, 0, none⟩ = some (.int .i64 k2) := block_cell HB2.out 0
      have b1 : x9.cell? ⟨p2, 1, none⟩ = some (.int .i64 z2) := block_cell HB2.out 1
      have b2 : x9.cell? ⟨p2, 2, none⟩ = some (.slice A2 q2 d2) := block_cell HB2.out 2
      have bl := block_lt HB2.out
      go_wp2_with fail
      clear a0 a1 a2 al b0 b1 b2 bl
      have hBa := heap_alloc_new x9 (.cells #[.int .i64 k1, .int .i64 z1, .slice A1 q1 d1, .int .i64 k2, .int .i64 z2, .slice A2 q2 d2] 30)
      have hEa := ext_alloc (ext_refl x9) (.cells #[.int .i64 k1, .int .i64 z1, .slice A1 q1 d1, .int .i64 k2, .int .i64 z2, .slice A2 q2 d2] 30)
      have HQ := Lib.hid (PV_pair 3 0 (PV_ext HP1.out hEa) (PV_ext HP2.out hEa) hBa)
      have HEa := Lib.hid hEa
      clear hBa hEa
      refine (compile_yes (.node 3 0 [t1, t2]) _ _ HQ.out (chk_pair 3 (.inr rfl) HFB1.out (by omega) (by omega) HFB2.out (by omega) (by omega))).mono ?_
      rintro e x10 ⟨m3, rfl, hM, hx10⟩
      have HN := Lib.hid hM
      have HY := Lib.hid hx10
      clear hM hx10
      have hX := (ext_trans HEa.out HY.out)
      replace HE := Lib.hid (ext_trans HE.out hX)
      replace HP1 := Lib.hid (PV_ext HP1.out hX)
      replace HB1 := Lib.hid ((ext_block hX (block_lt HB1.out)).trans HB1.out)
      replace HP2 := Lib.hid (PV_ext HP2.out hX)
      replace HB2 := Lib.hid ((ext_block hX (block_lt HB2.out)).trans HB2.out)
      replace HZB := Lib.hid (rdY_ext HZB.out hX)
      replace Hm1 := Lib.hid (machT_ext Hm1.out hX)
      replace Hm2 := Lib.hid (machT_ext Hm2.out hX)
      clear hX
      have Hm3 := HN
      clear HN HY
      clear HQ HEa
      have a0 : x10.cell? ⟨p1, 0, none⟩ = some (.int .i64 k1) := block_cell HB1.out 0
      have a1 : x10.cell? ⟨p1, 1, none⟩ = some (.int .i64 z1) := block_cell HB1.out 1
      have a2 : x10.cell? ⟨p1, 2, none⟩ = some (.slice A1 q1 d1) := block_cell HB1.out 2
      have al := block_lt HB1.out
      have b0 : x10.cell? ⟨p2, 0, none⟩ = some (.int .i64 k2) := block_cell HB2.out 0
      have b1 : x10.cell? ⟨p2, 1, none⟩ = some (.int .i64 z2) := block_cell HB2.out 1
      have b2 : x10.cell? ⟨p2, 2, none⟩ = some (.slice A2 q2 d2) := block_cell HB2.out 2
      have bl := block_lt HB2.out
      go_wp2_with fail
      clear a0 a1 a2 al b0 b1 b2 bl
      have hBa := heap_alloc_new x10 (.cells #[.int .i64 k1, .int .i64 z1, .slice A1 q1 d1, .int .i64 k2, .int .i64 z2, .slice A2 q2 d2] 30)
      have hEa := ext_alloc (ext_refl x10) (.cells #[.int .i64 k1, .int .i64 z1, .slice A1 q1 d1, .int .i64 k2, .int .i64 z2, .slice A2 q2 d2] 30)
      have HQ := Lib.hid (PV_pair 2 0 (PV_ext HP1.out hEa) (PV_ext HP2.out hEa) hBa)
      have HEa := Lib.hid hEa
      clear hBa hEa
      refine (compile_yes (.node 2 0 [t1, t2]) _ _ HQ.out (chk_pair 2 (.inl rfl) HFB1.out (by omega) (by omega) HFB2.out (by omega) (by omega))).mono ?_
      rintro e x11 ⟨m4, rfl, hM, hx11⟩
      have HN := Lib.hid hM
      have HY := Lib.hid hx11
      clear hM hx11
      have hX := (ext_trans HEa.out HY.out)
      replace HE := Lib.hid (ext_trans HE.out hX)
      replace HP1 := Lib.hid (PV_ext HP1.out hX)
      replace HB1 := Lib.hid ((ext_block hX (block_lt HB1.out)).trans HB1.out)
      replace HP2 := Lib.hid (PV_ext HP2.out hX)
      replace HB2 := Lib.hid ((ext_block hX (block_lt HB2.out)).trans HB2.out)
      replace HZB := Lib.hid (rdY_ext HZB.out hX)
      replace Hm1 := Lib.hid (machT_ext Hm1.out hX)
      replace Hm2 := Lib.hid (machT_ext Hm2.out hX)
      replace Hm3 := Lib.hid (machT_ext Hm3.out hX)
      clear hX
      have Hm4 := HN
      clear HN HY
      clear HQ HEa
      have hbase := HE.out
      clear hbase
      go_wp2
      go_loopw [22, 21] (fun x y wr => ∃ k : Nat, k ≤ U.length + 1 ∧ x = .int .i64 (k : Int) ∧ y = .bool (parts2 t1 t2 U k) ∧ Ext x11 wr) (fun x _ _ => U.length + 1 - (intOf x).toNat)
      case atStart => exact ⟨0, Nat.zero_le _, rfl, rfl, ext_refl _⟩
      case round =>
        rename World => wr
        obtain ⟨k, hk, rfl, rfl, hEr⟩ := hrel
        have HER := Lib.hid hEr
        clear hEr
        by_cases hlt : k ≤ U.length
        · have hki : (k : Int) ≤ (U.length : Int) := by omega
          have hk0 : (0 : Int) ≤ (k : Int) := by omega
          have hkc : k ≤ cb := by omega
          have HC1 := Lib.hid (mtakes_any _ wr m1 t1 (.slice Ab k cb) (U.take k) (machT_ext Hm1.out HER.out) (rdY_take (rdY_ext HZB.out HER.out) hlt _ hkc) (by rw [List.length_take]; omega))
          cases hs : parts2 t1 t2 U k with
          | true =>
            have HS := Lib.hid hs
            clear hs
            go_wp2
            go_roundw
            case rel => exact ⟨k + 1, by omega, by go_num, by rw [parts2_next, HS.out]; rfl, HER.out⟩
            case measure => simp [intOf]; omega
          | false =>
            have HS := Lib.hid hs
            clear hs
            cases h1 : tk t1 (U.take k) with
            | false =>
              rw [h1] at HC1
              have H1 := Lib.hid h1
              clear h1
              go_wp2_with fail
              refine HC1.out.mono ?_
              rintro e y1 ⟨rfl, hy⟩
              have HY := Lib.hid (ext_trans HER.out hy)
              clear hy
              go_wp2
              go_roundw
              case rel => exact ⟨k + 1, by omega, by go_num, by rw [parts2_next, HS.out, H1.out]; rfl, HY.out⟩
              case measure => simp [intOf]; omega
            | true =>
              rw [h1] at HC1
              have H1 := Lib.hid h1
              clear h1
              by_cases hck : cb = k
              · have hce : cb = U.length := by omega
                subst hce
                subst hck
                clear hlt hkc
                go_wp2_with fail
                refine HC1.out.mono ?_
                rintro e y1 ⟨rfl, hy⟩
                have HY := Lib.hid (ext_trans HER.out hy)
                clear hy
                go_wp2_with fail
                refine (mtakes_any _ _ m2 t2 _ [] (machT_ext Hm2.out HY.out) (rdY_nil0 _ _ _) (by simp)).mono ?_
                rintro e y2 ⟨rfl, hy⟩
                have HY2 := Lib.hid (ext_trans HY.out hy)
                clear hy
                obtain ⟨b2, hb2⟩ : ∃ b, b = tk t2 (U.drop U.length) := ⟨_, rfl⟩
                have hb3 := hb2
                rw [List.drop_length] at hb3
                rw [← hb3]
                have HB2' := Lib.hid hb2
                clear hb2 hb3
                go_wp2
                go_roundw
                case rel => exact ⟨U.length + 1, by omega, by go_num, by rw [parts2_next, HS.out, H1.out, ← HB2'.out]; simp, HY2.out⟩
                case measure => simp [intOf]
              · go_wp2_with fail
                refine HC1.out.mono ?_
                rintro e y1 ⟨rfl, hy⟩
                have HY := Lib.hid (ext_trans HER.out hy)
                clear hy
                have hf := rdY_from (k := k) (rdY_ext HZB.out HY.out) hlt
                rw [if_neg hck] at hf
                have HFF := Lib.hid hf
                clear hf
                go_wp2_with fail
                refine (mtakes_any _ _ m2 t2 _ (U.drop k) (machT_ext Hm2.out HY.out) HFF.out (by rw [List.length_drop]; omega)).mono ?_
                rintro e y2 ⟨rfl, hy⟩
                have HY2 := Lib.hid (ext_trans HY.out hy)
                clear hy
                obtain ⟨b2, hb2⟩ : ∃ b, b = tk t2 (U.drop k) := ⟨_, rfl⟩
                rw [← hb2]
                have HB2' := Lib.hid hb2
                clear hb2
                go_wp2
                go_roundw
                case rel => exact ⟨k + 1, by omega, by go_num, by rw [parts2_next, HS.out, H1.out, ← HB2'.out]; simp, HY2.out⟩
                case measure => simp [intOf]; omega
        · obtain rfl : k = U.length + 1 := by omega
          have hki : ¬ ((U.length + 1 : Nat) : Int) ≤ (U.length : Int) := by omega
          obtain ⟨ss, hss⟩ : ∃ b, b = parts2 t1 t2 U (U.length + 1) := ⟨_, rfl⟩
          rw [← hss]
          have HSS := Lib.hid (hss.trans (seq_parts2 t1 t2 U).symm)
          have hbs := beq_self ss
          clear hss
          go_wp2_with fail
          refine (mtakes_any _ _ m3 (.node 3 0 [t1, t2]) _ U (machT_ext Hm3.out HER.out) (rdY_ext HZB.out HER.out) (by omega)).mono ?_
          rintro e y1 ⟨rfl, hy⟩
          rw [alt_tk]
          have HY1 := Lib.hid (ext_trans HER.out hy)
          clear hy
          have HC1 := Lib.hid (mtakes_any _ y1 m1 t1 _ U (machT_ext Hm1.out HY1.out) (rdY_ext HZB.out HY1.out) (by omega))
          cases h1 : tk t1 U with
          | true =>
            rw [h1] at HC1
            clear h1
            rw [Bool.true_or]
            go_wp2_with fail
            refine HC1.out.mono ?_
            rintro e y2 ⟨rfl, hy⟩
            have HY2 := Lib.hid (ext_trans HY1.out hy)
            clear hy
            go_wp2_with fail
            refine (mtakes_any _ _ m4 (.node 2 0 [t1, t2]) _ U (machT_ext Hm4.out HY2.out) (rdY_ext HZB.out HY2.out) (by omega)).mono ?_
            rintro e y3 ⟨rfl, hy⟩
            rw [← HSS.out]
            have HY3 := Lib.hid (ext_trans HY2.out hy)
            clear hy
            go_wp2
            refine bodyPost_ret (results_tmp rfl _ _ _) rfl ?_
            exact ⟨rfl, ext_trans HE.out HY3.out⟩
          | false =>
            rw [h1] at HC1
            clear h1
            rw [Bool.false_or]
            obtain ⟨b2, hb2⟩ : ∃ b, b = tk t2 U := ⟨_, rfl⟩
            rw [← hb2]
            have HB2' := Lib.hid hb2
            have hbb := beq_self b2
            clear hb2
            go_wp2_with fail
            refine HC1.out.mono ?_
            rintro e y2 ⟨rfl, hy⟩
            have HY2 := Lib.hid (ext_trans HY1.out hy)
            clear hy
            go_wp2_with fail
            refine (mtakes_any _ _ m2 t2 _ U (machT_ext Hm2.out HY2.out) (rdY_ext HZB.out HY2.out) (by omega)).mono ?_
            rintro e y3 ⟨rfl, hy⟩
            rw [← HB2'.out]
            have HY3 := Lib.hid (ext_trans HY2.out hy)
            clear hy
            go_wp2_with fail
            refine (mtakes_any _ _ m4 (.node 2 0 [t1, t2]) _ U (machT_ext Hm4.out HY3.out) (rdY_ext HZB.out HY3.out) (by omega)).mono ?_
            rintro e y4 ⟨rfl, hy⟩
            rw [← HSS.out]
            have HY4 := Lib.hid (ext_trans HY3.out hy)
            clear hy
            go_wp2
            refine bodyPost_ret (results_tmp rfl _ _ _) rfl ?_
            exact ⟨rfl, ext_trans HE.out HY4.out⟩
end Go.Proofs.Ytiabmdboacpmcaa
