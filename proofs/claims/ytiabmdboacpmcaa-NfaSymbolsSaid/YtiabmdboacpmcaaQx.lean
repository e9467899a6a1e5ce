/- NfaSymbols. -/
import Derived.Test.YtiabmdboacpmcaaRe
import Derived.Test.YtiabmdboacpmcaaQp
import Derived.Test.YtiabmdboacpmcaaGx
namespace Go.Proofs.Ytiabmdboacpmcaa
open Go Go.RowKit Go.Sort
set_option maxHeartbeats 4000000

theorem doesAt_det {P : Program} {o : Oper} {a : Act} {w w1 w2 : World} {v v' : Value} (h : doesAt P o a w v w1) (k : doesAt P o a w v' w2) : v = v' ∧ w1 = w2 := by
  unfold doesAt at *
  rcases h with h | ⟨h, rfl⟩
  · rcases k with k | ⟨k, rfl⟩
    · rw [h] at k; simp at k; exact k
    · rw [h] at k; simp at k
  · rcases k with k | ⟨k, rfl⟩
    · rw [h] at k; simp at k
    · rw [h] at k; simp at k; exact ⟨rfl, k⟩
theorem starL_sym {A : List Sy → Prop} {S : Sy → Prop} (hA : ∀ w, A w → ∀ s ∈ w, S s) {w : List Sy} (h : StarL A w) : ∀ s ∈ w, S s := by
  induction h with
  | nil => intro s hs; cases hs
  | cons ha _ ih =>
    intro s hs
    rcases List.mem_append.1 hs with hs | hs
    · exact hA _ ha s hs
    · exact ih s hs
mutual
theorem words_sym : ∀ (t : Tr) (w : List Sy), Words t w → ∀ s ∈ w, s ∈ symT t
  | .node k n ps, w, h => by
    rw [Words] at h
    rw [symT]
    by_cases h0 : k = 0
    · subst h0
      simp at h
      subst h
      simp
    by_cases h1 : k = 1
    · subst h1
      simp at h
      subst h
      simp
    rw [if_neg (by omega)]
    rw [if_neg h0, if_neg h1] at h
    have hL := words_symA ps
    split at h
    · exact words_symS ps w h
    · split at h
      · exact hL w h
      · split at h
        · exact starL_sym hL h
        · split at h
          · obtain ⟨u, v, rfl, hu, hv⟩ := h
            intro s hs
            rcases List.mem_append.1 hs with hs | hs
            · exact hL u hu s hs
            · exact starL_sym hL hv s hs
          · rcases h with rfl | h
            · intro s hs; cases hs
            · exact hL w h
theorem words_symS : ∀ (ps : List Tr) (w : List Sy), WordsSeq ps w → ∀ s ∈ w, s ∈ symL ps
  | [], w, h => by rw [WordsSeq] at h; subst h; intro s hs; cases hs
  | p :: r, w, h => by
    rw [WordsSeq] at h
    obtain ⟨u, v, rfl, h1, h2⟩ := h
    intro s hs
    rw [symL]
    rcases List.mem_append.1 hs with hs | hs
    · exact List.mem_append_left _ (words_sym p u h1 s hs)
    · exact List.mem_append_right _ (words_symS r v h2 s hs)
theorem words_symA : ∀ (ps : List Tr) (w : List Sy), WordsAlt ps w → ∀ s ∈ w, s ∈ symL ps
  | [], w, h => by rw [WordsAlt] at h; exact h.elim
  | p :: r, w, h => by
    rw [WordsAlt] at h
    intro s hs
    rw [symL]
    rcases h with h | h
    · exact List.mem_append_left _ (words_sym p w h s hs)
    · exact List.mem_append_right _ (words_symA r w h s hs)
end
theorem stand_any (s1 : Int) (s2 : Bool) (pg c : Nat) (A : Option Addr) (G : List Sy) (w : World) (hb : w.heap[pg]? = some (.cells #[.slice A G.length c] 43 (0, 0))) (hG : RdY w (.slice A G.length c) G) (hl : G.length ≤ 100000) : Calls Try.prog 54 #[.agg #[.int .i64 s1, .bool s2], .pointer (some ⟨pg, 0, none⟩)] w fun e w' => e = .returned (.bool (decide ((s1, s2) ∈ G))) ∧ Ext w w' := by
  have HG := Lib.hid hG
  have HB := Lib.hid hb
  have q0 : w.cell? ⟨pg, 0, none⟩ = some (.slice A G.length c) := block_cell hb 0
  have lpg := block_lt hb
  clear hG hb
  go_enter Try.func54, Try.ntmps54
  go_wp2
  go_loopw [8] (fun x wr => ∃ j : Nat, j ≤ G.length ∧ x = .int .i64 (j : Int) ∧ (s1, s2) ∉ G.take j ∧ Ext w wr ∧ wr.heap[w.heap.size]? = some (.cells #[.int .i64 s1, .bool s2] 42 (0, 0))) (fun x _ => G.length - (intOf x).toNat)
  case atStart => exact ⟨0, Nat.zero_le _, rfl, by simp, ext_alloc (ext_refl _) _, heap_alloc_new _ _⟩
  case round =>
    rename World => wr
    obtain ⟨j, hj, rfl, hno, hE, hbx⟩ := hrel
    have HNO := Lib.hid hno
    have HE := Lib.hid hE
    have HBX := Lib.hid hbx
    have b0 : wr.cell? ⟨w.heap.size, 0, none⟩ = some (.int .i64 s1) := block_cell hbx 0
    have b1 : wr.cell? ⟨w.heap.size, 1, none⟩ = some (.bool s2) := block_cell hbx 1
    have lbx := block_lt hbx
    clear hno hE hbx q0 lpg
    by_cases hlt : j < G.length
    · have hji : (j : Int) < (G.length : Int) := by omega
      have hj0 : (0 : Int) ≤ (j : Int) := by omega
      obtain ⟨⟨y1, y2⟩, hy⟩ : ∃ y, G[j]? = some y := ⟨_, List.getElem?_eq_getElem hlt⟩
      obtain ⟨A', c', hv', hcc, hA⟩ := rdY_ext HG.out HE.out
      simp only [Value.slice.injEq] at hv'
      obtain ⟨rfl, -, rfl⟩ := hv'
      obtain ⟨bb, off, rfl, lb, hcs⟩ := hA (fun e => by rw [e] at hy; simp at hy)
      obtain ⟨z0, z1⟩ := hcs j _ hy
      have HY := Lib.hid hy
      clear hA hcs hy
      by_cases he : (y1, y2) = (s1, s2)
      · have heq : ∀ w : World, Sem.run Try.prog (Op.equalIn 10000 42 (.agg #[.int .i64 y1, .bool y2]) (.agg #[.int .i64 s1, .bool s2])) w = .ok true w := fun w => by rw [eq42, decide_eq_true he]
        have HEQ := Lib.hid he
        clear he
        go_wp2
        refine bodyPost_ret (results_tmp rfl _ _ _) rfl ?_
        exact ⟨by rw [decide_eq_true (by rw [← HEQ.out]; exact List.mem_of_getElem? HY.out)]; rfl, ext_alloc HE.out _⟩
      · have heq : ∀ w : World, Sem.run Try.prog (Op.equalIn 10000 42 (.agg #[.int .i64 y1, .bool y2]) (.agg #[.int .i64 s1, .bool s2])) w = .ok false w := fun w => by rw [eq42, decide_eq_false he]
        have HEQ := Lib.hid he
        clear he
        go_wp2
        go_roundw
        case rel => exact ⟨j + 1, by omega, by go_num, by
          rw [List.take_add_one, HY.out, List.mem_append]
          rintro (h | h)
          · exact HNO.out h
          · exact HEQ.out ((show (s1, s2) = (y1, y2) by simpa using h).symm), ext_alloc HE.out _, (ext_block (ext_alloc (ext_refl wr) _) (block_lt HBX.out)).trans HBX.out⟩
        case measure => simp [intOf]; omega
    · obtain rfl : j = G.length := by omega
      rw [List.take_length] at HNO
      go_wp2
      refine bodyPost_ret (results_tmp rfl _ _ _) rfl ?_
      exact ⟨by rw [decide_eq_false HNO.out]; rfl, HE.out⟩
set_option maxRecDepth 100000 in
theorem symbols_law (v vl : Value) (L : List Nd) (B : List Nat) (w : World) (hv : RdNd w v L) (hb : RdB w vl B) : Calls Try.prog 17 #[v, vl] w fun e w' => e = .returned (.bool true) ∧ Ext w w' := by
  have HV := Lib.hid hv
  have HBY := Lib.hid hb
  clear hv hb
  go_enter Try.func17, Try.ntmps17
  go_wp2_with fail
  refine (awake_any _).mono ?_
  rintro e w1 ⟨rfl, hE1⟩
  have HE1 := Lib.hid hE1
  clear hE1
  go_wp2_with fail
  refine (fix_any v L _ (rdNd_ext HV.out HE1.out)).mono ?_
  rintro e w2 ⟨L', v', rfl, hr, hF, hl, hE2⟩
  have HR := Lib.hid hr
  have HF := Lib.hid hF
  have HE2 := Lib.hid (ext_trans HE1.out hE2)
  have hl8 : L'.length ≤ 8 := by omega
  clear hr hF hE2 hl
  go_wp2_with fail
  refine (tree_fix 8 (by decide) (by decide) v' L' _ HR.out HF.out hl8).mono ?_
  rintro e w3 ⟨rb, n, t, k, z, A, q, c, rfl, hn, hfit, hlst, hpv, hE3⟩
  obtain ⟨hfb, hch, -⟩ := fit_chk hfit (by decide)
  have hsz : sizeT t ≤ 300 := by have := hfit.2.1; omega
  have HFB := Lib.hid hfb
  have HLS := Lib.hid hlst
  have HPV := Lib.hid hpv
  have HE3 := Lib.hid (ext_trans HE2.out hE3)
  clear hfit hlst hpv hE3 hfb hl8
  go_wp2_with fail
  have hE4 := ext_alloc (ext_refl w3) (.cells #[.int .i64 k, .int .i64 z, .slice A q c] 30)
  have hB4 := heap_alloc_new w3 (.cells #[.int .i64 k, .int .i64 z, .slice A q c] 30)
  obtain ⟨w4, hw4⟩ : ∃ w4, w4 = w3.alloc (.cells #[.int .i64 k, .int .i64 z, .slice A q c] 30) := ⟨_, rfl⟩
  obtain ⟨p7, hp7⟩ : ∃ p, p = w3.heap.size := ⟨_, rfl⟩
  rw [← hw4] at hE4 hB4 ⊢
  rw [← hp7] at hB4 ⊢
  have HB4 := Lib.hid hB4
  have HE4 := Lib.hid (ext_trans HE3.out hE4)
  have HL4 := Lib.hid (lst_ext HLS.out hE4)
  have HP4 := Lib.hid (PV_ext HPV.out hE4)
  clear hw4 hp7 hE4 hB4 HLS HPV HE3
  refine (rcheck_any t rb n 0 _ (by omega) hn HL4.out).mono ?_
  rintro e w5 ⟨rfl, hE5⟩
  have HE5 := Lib.hid hE5
  clear hE5
  by_cases hz : chk t = 0
  · rw [hz]
    have HZ := Lib.hid hz
    have h45 := (ext_block HE5.out (block_lt HB4.out)).trans HB4.out
    have c0 : w5.cell? ⟨p7, 0, none⟩ = some (.int .i64 k) := block_cell h45 0
    have c1 : w5.cell? ⟨p7, 1, none⟩ = some (.int .i64 z) := block_cell h45 1
    have c2 : w5.cell? ⟨p7, 2, none⟩ = some (.slice A q c) := block_cell h45 2
    have l7 := block_lt h45
    clear hz hch h45
    go_wp2_with fail
    refine (compile_yes t _ _ (PV_ext HP4.out HE5.out) HZ.out).mono ?_
    rintro e w6 ⟨p, rfl, hM, hE6⟩
    have HM6 := Lib.hid hM
    have HE6 := Lib.hid (ext_trans HE5.out hE6)
    clear hM hE6 c0 c1 c2 l7 HE5
    go_wp2_with fail
    refine (word_any vl B _ (rdB_ext HBY.out (ext_trans HE4.out HE6.out))).mono ?_
    rintro e w7 ⟨U, va, vb, rfl, hza, hzb, hU5, -, hE7⟩
    obtain ⟨Ab, cb, rfl⟩ := rowE_form hzb.1
    have HZB := Lib.hid (rdY_row hzb.1)
    have HM7 := Lib.hid (machT_ext HM6.out hE7)
    have HE7 := Lib.hid (ext_trans HE6.out hE7)
    have h47 := (ext_block HE7.out (block_lt HB4.out)).trans HB4.out
    have c0 : w7.cell? ⟨p7, 0, none⟩ = some (.int .i64 k) := block_cell h47 0
    have c1 : w7.cell? ⟨p7, 1, none⟩ = some (.int .i64 z) := block_cell h47 1
    have c2 : w7.cell? ⟨p7, 2, none⟩ = some (.slice A q c) := block_cell h47 2
    have l7 := block_lt h47
    clear hza hzb hE7 HM6 HE6 h47
    go_wp2_with fail
    refine (sym_all 1000 (by decide) t _ _ (by omega) HFB.out (PV_ext HP4.out HE7.out)).mono ?_
    rintro e w8 ⟨A9, c9, G, rfl, hrd, hso, hE8⟩
    have HSO := Lib.hid hso
    have hgl : G.length ≤ 300 := Nat.le_trans hso.len hsz
    have hgne : G ≠ [] := fun e => symT_ne t HFB.out (List.eq_nil_iff_forall_not_mem.2 (fun s hs => by have := (hso.mem s).2 hs; rw [e] at this; cases this))
    have hg1 : 1 ≤ G.length := List.length_pos_iff.2 hgne
    have hEa := ext_alloc hE8 (.cells #[.slice A9 G.length c9] 43)
    have hBa := heap_alloc_new w8 (.cells #[.slice A9 G.length c9] 43)
    have hRDa := rdY_ext hrd (ext_alloc (ext_refl w8) (.cells #[.slice A9 G.length c9] 43))
    clear c0 c1 c2 l7 hso hgne
    go_wp2_with fail
    obtain ⟨wg, hwg⟩ : ∃ wg, wg = w8.alloc (.cells #[.slice A9 G.length c9] 43) := ⟨_, rfl⟩
    obtain ⟨pg, hpg⟩ : ∃ p, p = w8.heap.size := ⟨_, rfl⟩
    rw [← hwg] at hEa hBa hRDa ⊢
    rw [← hpg] at hBa ⊢
    have HBG := Lib.hid hBa
    have HRG := Lib.hid hRDa
    have HEG := Lib.hid (ext_trans HE7.out hEa)
    have HMG := Lib.hid (machT_ext HM7.out hEa)
    have HZG := Lib.hid (rdY_ext HZB.out hEa)
    clear hwg hpg hEa hBa hRDa hrd hE8 HM7 HZB HE7
    go_loopw [13] (fun x wr => ∃ i : Nat, i + 1 ≤ G.length ∧ x = .int .i64 ((i + 1 : Nat) : Int) ∧ Ext wg wr) (fun x _ => G.length - (intOf x).toNat)
    case atStart => exact ⟨0, hg1, rfl, ext_refl _⟩
    case round =>
      rename World => wr
      obtain ⟨i, hi, rfl, hE⟩ := hrel
      have HE := Lib.hid hE
      clear hE
      obtain ⟨j, hj⟩ : ∃ j, j = i + 1 := ⟨_, rfl⟩
      rw [← hj] at hi ⊢
      have hbg := (ext_block HE.out (block_lt HBG.out)).trans HBG.out
      have g0 : wr.cell? ⟨pg, 0, none⟩ = some (.slice A9 G.length c9) := block_cell hbg 0
      have lg := block_lt hbg
      by_cases hlt : j < G.length
      · have hji : (j : Int) < (G.length : Int) := by omega
        have hj0 : (0 : Int) ≤ (j : Int) := by omega
        have hii : (i : Int) < (G.length : Int) := by omega
        have hi0 : (0 : Int) ≤ (i : Int) := by omega
        have hin : i < G.length := by omega
        have hcast : ((j : Int) - 1) = (i : Int) := by omega
        have hwi : IntKind.i64.wrap (i : Int) = (i : Int) := wrap_small _ (by omega) (by omega)
        obtain ⟨⟨x1, x2⟩, hx⟩ : ∃ y, G[i]? = some y := ⟨_, List.getElem?_eq_getElem hin⟩
        obtain ⟨⟨y1, y2⟩, hy⟩ : ∃ y, G[j]? = some y := ⟨_, List.getElem?_eq_getElem hlt⟩
        obtain ⟨A', c', hv', hcc, hA⟩ := rdY_ext HRG.out HE.out
        simp only [Value.slice.injEq] at hv'
        obtain ⟨rfl, -, rfl⟩ := hv'
        obtain ⟨bb, off, rfl, lb, hcs⟩ := hA (fun e => by rw [e] at hy; simp at hy)
        obtain ⟨z0, z1⟩ := hcs i _ hx
        obtain ⟨y0, y1'⟩ := hcs j _ hy
        have hlt2 : cmpS (x1, x2) (y1, y2) < 0 := by
          obtain ⟨p1, p2⟩ := List.getElem?_eq_some_iff.1 hx
          obtain ⟨q1, q2⟩ := List.getElem?_eq_some_iff.1 hy
          have := List.pairwise_iff_getElem.1 HSO.out.strict i j p1 q1 (by omega)
          rwa [p2, q2] at this
        rw [cmpS_neg] at hlt2
        have HLT := Lib.hid hlt2
        have HJ := Lib.hid hj
        have nf : ∀ b, b < wr.heap.size → ¬ (wr.heap.size ≤ b) := fun b hb h => by omega
        have u0 : ∀ pw : UW (fun b => wr.heap.size ≤ b) wr, pw.val.cell? ⟨pg, 0, none⟩ = some (.slice (some ⟨bb, off, none⟩) G.length c9) := uw_cell g0 (nf _ lg)
        have u1 : ∀ pw : UW (fun b => wr.heap.size ≤ b) wr, pw.val.cell? ⟨bb, off + i * 2, none⟩ = some (.int .i64 x1) := uw_cell z0 (nf _ lb)
        have u2 : ∀ pw : UW (fun b => wr.heap.size ≤ b) wr, pw.val.cell? ⟨bb, off + i * 2 + 1, none⟩ = some (.bool x2) := uw_cell z1 (nf _ lb)
        have u3 : ∀ pw : UW (fun b => wr.heap.size ≤ b) wr, pw.val.cell? ⟨bb, off + j * 2, none⟩ = some (.int .i64 y1) := uw_cell y0 (nf _ lb)
        have u4 : ∀ pw : UW (fun b => wr.heap.size ≤ b) wr, pw.val.cell? ⟨bb, off + j * 2 + 1, none⟩ = some (.bool y2) := uw_cell y1' (nf _ lb)
        clear hA hcs hx hy hlt2 hj nf hbg
        go_wp2_with fail
        clear g0 lg z0 z1 y0 y1' lb
        refine wp_region_fresh (fp := fun b => wr.heap.size ≤ b) [] [0, 1, 2, 3, 4, 5, 6, 7, 8] [9, 10] 11 [12] [9, 10, 11] rfl (by kernel_rfl) (by kernel_rfl) (by kernel_rfl) (fun _ _ d _ _ h => by cases d <;> exact h) ?_
        refine wpPre_nil ?_
        repeat (refine wpU_step rfl (fun K hK => ?_); (try simp only [Oper.quietAt, Oper.quietUpon]); go_simp; (refine hK _ ?_; clear hK K))
        refine wpU_nil ?_
        refine wpFresh_step (fun p => .pointer (some ⟨p, 0, none⟩)) (.cells #[.int .i64 0, .bool false] 42) rfl rfl (fun _ => by go_simp) (fun p1 hp1 hn1 => ?_)
        refine wpFresh_step (fun p => .pointer (some ⟨p, 0, none⟩)) (.cells #[.int .i64 0, .bool false] 42) rfl rfl (fun _ => by go_simp) (fun p2 hp2 hn2 => ?_)
        refine wpFresh_nil ?_
        have hpp : p1 ≠ p2 := fun e => hn2 (by simp [e])
        have HP1 := Lib.hid hp1
        have HP2 := Lib.hid hp2
        clear hp1 hp2 hn1 hn2
        refine ⟨⟨_, rfl, rfl⟩, fun w5 hE5 hS5 o ho => ?_, fun o ho v w5 w6 w7' hE5 hS5 hdo hU6 hE7 => ?_⟩
        · cases ho
          obtain ⟨⟨-, hs1⟩, hs2⟩ := hS5
          have a0 : w5.cell? ⟨p1, 0, none⟩ = some (.int .i64 0) := block_cell hs1 0
          have a1 : w5.cell? ⟨p1, 1, none⟩ = some (.bool false) := block_cell hs1 1
          have f0 := block_frozen hs1 0
          have f1 := block_frozen hs1 1
          refine ⟨undef, (w5.setCell ⟨p1, 0, none⟩ (.int .i64 x1)).setCell ⟨p1, 1, none⟩ (.bool x2), .inr ⟨?_, rfl⟩, ?_⟩
          · go_simp
          · exact upd_trans (upd_mono (upd_setCell (a := ⟨p1, 0, none⟩) _) (fun b _ e => by rw [e]; exact HP1.out)) (upd_mono (upd_setCell (a := ⟨p1, 1, none⟩) _) (fun b _ e => by rw [e]; exact HP1.out)) (fun _ _ h => h)
        · cases ho
          obtain ⟨⟨-, hs1⟩, hs2⟩ := hS5
          have a0 : w5.cell? ⟨p1, 0, none⟩ = some (.int .i64 0) := block_cell hs1 0
          have a1 : w5.cell? ⟨p1, 1, none⟩ = some (.bool false) := block_cell hs1 1
          have f0 := block_frozen hs1 0
          have f1 := block_frozen hs1 1
          obtain ⟨rfl, hw6⟩ := doesAt_det hdo (v' := undef) (w2 := (w5.setCell ⟨p1, 0, none⟩ (.int .i64 x1)).setCell ⟨p1, 1, none⟩ (.bool x2)) (.inr ⟨by go_simp, rfl⟩)
          have hb1 : w6.heap[p1]? = some (.cells #[.int .i64 x1, .bool x2] 42 (0, 0)) := by rw [hw6, heap_setCell_at (heap_setCell_at hs1)]; rfl
          have hb2 : w6.heap[p2]? = some (.cells #[.int .i64 0, .bool false] 42 (0, 0)) := by
            have hu : Upd (fun b => b = p1) w5 w6 := by rw [hw6]; exact upd_trans (upd_setCell (a := ⟨p1, 0, none⟩) _) (upd_setCell (a := ⟨p1, 1, none⟩) _) (fun _ _ h => h)
            exact (hu.block p2 (block_lt hs2) (fun e => hpp e.symm)).trans hs2
          have hE7w : Ext wr w7' := ext_trans (ext_updL hE5 hU6 (fun b h => h)) hE7
          have hc1 := (ext_block hE7 (block_lt hb1)).trans hb1
          have hc2 := (ext_block hE7 (block_lt hb2)).trans hb2
          have d0 : w7'.cell? ⟨p1, 0, none⟩ = some (.int .i64 x1) := block_cell hc1 0
          have d1 : w7'.cell? ⟨p1, 1, none⟩ = some (.bool x2) := block_cell hc1 1
          have e0 : w7'.cell? ⟨p2, 0, none⟩ = some (.int .i64 0) := block_cell hc2 0
          have e1 : w7'.cell? ⟨p2, 1, none⟩ = some (.bool false) := block_cell hc2 1
          have g0 := block_frozen hc2 0
          have g1 := block_frozen hc2 1
          have l1 := block_lt hc1
          have l2 := block_lt hc2
          have HX7 := Lib.hid (ext_set (ext_set hE7w (p := ⟨p2, 0, none⟩) HP2.out (.int .i64 y1)) (p := ⟨p2, 1, none⟩) HP2.out (.bool y2))
          have hpp' : p2 ≠ p1 := fun e => hpp e.symm
          clear hs1 hs2 a0 a1 f0 f1 hdo hU6 hE7 hE5 hw6 hb1 hb2 hE7w hc1 hc2 u0 u1 u2 u3 u4
          have hcas : (x2 = y2 ∧ ¬ y1 ≤ x1) ∨ (x2 = false ∧ y2 = true) := by
            have h := HLT.out
            simp only [wayN] at h
            cases x2 <;> cases y2 <;> simp at h ⊢ <;> omega
          rcases hcas with ⟨rfl, hxy⟩ | ⟨rfl, rfl⟩
          · cases x2
            · refine wpAny_one (i := 12) (by kernel_rfl) rfl ?_
              go_wp2_with fail
              refine wpAny_end (by kernel_rfl) ?_
              go_wp2
              go_roundw
              case rel => exact ⟨i + 1, by have := HJ.out; omega, by rw [HJ.out]; go_num, ext_trans HE.out HX7.out⟩
              case measure => have := HJ.out; simp [intOf]; omega
            · refine wpAny_one (i := 12) (by kernel_rfl) rfl ?_
              go_wp2_with fail
              refine wpAny_end (by kernel_rfl) ?_
              go_wp2
              go_roundw
              case rel => exact ⟨i + 1, by have := HJ.out; omega, by rw [HJ.out]; go_num, ext_trans HE.out HX7.out⟩
              case measure => have := HJ.out; simp [intOf]; omega
          · refine wpAny_one (i := 12) (by kernel_rfl) rfl ?_
            go_wp2_with fail
            refine wpAny_end (by kernel_rfl) ?_
            go_wp2
            go_roundw
            case rel => exact ⟨i + 1, by have := HJ.out; omega, by rw [HJ.out]; go_num, ext_trans HE.out HX7.out⟩
            case measure => have := HJ.out; simp [intOf]; omega
      · have hji : ¬ (j : Int) < (G.length : Int) := by omega
        have hglen : (1 : Int) ≤ (G.length : Int) := by omega
        have HJ := Lib.hid hj
        clear hj
        go_wp2_with fail
        go_loopw [82] (fun x wx => ∃ r : Nat, r ≤ U.length ∧ x = .int .i64 (r : Int) ∧ Ext wr wx) (fun x _ => U.length - (intOf x).toNat)
        case atStart => exact ⟨0, Nat.zero_le _, rfl, ext_refl _⟩
        case round =>
          rename World => wx
          obtain ⟨r, hr, rfl, hEx⟩ := hrel
          have HX := Lib.hid (ext_trans HE.out hEx)
          have hbgx := (ext_block HX.out (block_lt HBG.out)).trans HBG.out
          have HBX := Lib.hid hbgx
          have g0x : wx.cell? ⟨pg, 0, none⟩ = some (.slice A9 G.length c9) := block_cell hbgx 0
          have lgx := block_lt hbgx
          have HEX := Lib.hid hEx
          clear hEx hbgx g0 lg
          by_cases hrl : r < U.length
          · have hri : (r : Int) < (U.length : Int) := by omega
            have hr0 : (0 : Int) ≤ (r : Int) := by omega
            obtain ⟨⟨s1, s2⟩, hs⟩ : ∃ a, U[r]? = some a := ⟨_, List.getElem?_eq_getElem hrl⟩
            obtain ⟨A', c', hv', hcc, hA⟩ := rdY_ext HZG.out HX.out
            simp only [Value.slice.injEq] at hv'
            obtain ⟨rfl, -, rfl⟩ := hv'
            obtain ⟨bb, off, rfl, lb, hcs⟩ := hA (fun e => by rw [e] at hs; simp at hs)
            obtain ⟨z0, z1⟩ := hcs r _ hs
            have HS := Lib.hid hs
            clear hA hcs hs
            go_wp2_with fail
            have hEa := ext_alloc (ext_refl wx) (.cells #[.int .i64 s1, .bool s2] 42)
            refine (stand_any s1 s2 pg c9 A9 G _ ((ext_block hEa (block_lt HBX.out)).trans HBX.out) (rdY_ext HRG.out (ext_trans HX.out hEa)) (by omega)).mono ?_
            rintro e y1 ⟨rfl, hEy⟩
            have HY1 := Lib.hid (ext_trans HEX.out (ext_trans hEa hEy))
            clear hEa hEy z0 z1 lb
            by_cases hin : (s1, s2) ∈ G
            · have hd : decide ((s1, s2) ∈ G) = true := decide_eq_true hin
              rw [hd]
              clear hd hin
              go_wp2
              go_roundw
              case rel => exact ⟨r + 1, by omega, by go_num, HY1.out⟩
              case measure => simp [intOf]; omega
            · have hd : decide ((s1, s2) ∈ G) = false := decide_eq_false hin
              rw [hd]
              have htk : tk t U = false := tk_false (fun h => hin ((HSO.out.mem _).2 (words_sym t U h _ (List.mem_of_getElem? HS.out))))
              have HTK := Lib.hid htk
              clear hd hin htk
              go_wp2_with fail
              refine (mtakes_any _ _ p t _ U (machT_ext HMG.out (ext_trans HE.out HY1.out)) (rdY_ext HZG.out (ext_trans HE.out HY1.out)) (by omega)).mono ?_
              rintro e y2 ⟨rfl, hEy⟩
              rw [HTK.out]
              have HY2 := Lib.hid (ext_trans HY1.out hEy)
              clear hEy
              go_wp2
              go_roundw
              case rel => exact ⟨r + 1, by omega, by go_num, HY2.out⟩
              case measure => simp [intOf]; omega
          · obtain rfl : r = U.length := by omega
            go_wp2
            refine bodyPost_ret (results_tmp rfl _ _ _) rfl ?_
            exact ⟨rfl, ext_trans HE4.out (ext_trans HEG.out HX.out)⟩
  · rw [show chk t = 13 by rcases hch with h | h; exact absurd h hz; exact h]
    clear hz hch
    go_wp2
    refine bodyPost_ret (results_tmp rfl _ _ _) rfl ?_
    exact ⟨rfl, ext_trans HE4.out HE5.out⟩
end Go.Proofs.Ytiabmdboacpmcaa
