/- Texts joined: Pk Pl. -/
import Derived.Test.YtiabmdboacpmcaaX16
import Derived.Test.YtiabmdboacpmcaaX14
/- lay, of one of some paths, and of paths gone again. -/
namespace Go.Proofs.Ytiabmdboacpmcaa
open Go Go.RowKit Go.Sort
set_option maxHeartbeats 1000000

set_option maxRecDepth 100000 in
theorem lay_alt {N : Nat} (hd : LayAt N) (n : Int) (ps : List Tr) (v : Value) (W w : World) (p m s : Nat) (bg en : Int) (mv : List Mv) (hN : sizeL ps ≤ N) (hf : FormL ps) (hv : PV W (.node 3 n ps) v) (h : Cur W p bg en mv m w) (hs : s < m) (hm : m + 3 + 3 * sizeL ps ≤ 90000) (hl : mv.length + 5 + 5 * sizeL ps ≤ 90000) :
    Calls Try.prog 59 #[.pointer (some ⟨p, 0, none⟩), v, .int .i64 s] w fun e w' => e = .returned (.int .i64 m) ∧ Cur W p bg en (mv ++ (genAlt ps (m + 1) s m).1) (genAlt ps (m + 1) s m).2 w' ∧ Upd (MT w) w w' := by
  obtain ⟨sv, rfl, hsv⟩ := hv
  have HS := Lib.hid hsv
  obtain ⟨A0, c0, rfl⟩ := PS_form hsv
  have hlen := sizeL_len ps
  have HC := Lib.hid h
  have HF := Lib.hid hf
  have HD := Lib.hid hd
  clear h hsv hf hd
  obtain ⟨w1, hw1⟩ : ∃ w1, w1 = w.alloc (.cells #[.int .i64 3, .int .i64 n, .slice A0 ps.length c0] 30) := ⟨_, rfl⟩
  have hE0 := Lib.hid (show Ext w w1 by rw [hw1]; exact ext_alloc (ext_refl _) _)
  have hB0 := Lib.hid (show w1.heap[w.heap.size]? = some (.cells #[.int .i64 3, .int .i64 n, .slice A0 ps.length c0] 30 (0, 0)) by rw [hw1]; exact heap_alloc_new w _)
  go_enter Try.func59, Try.ntmps59
  go_wp2_with fail
  rw [← hw1]
  clear hw1
  refine (state_cur W _ p m bg en mv (cur_ext HC.out hE0.out) (by omega)).mono ?_
  rintro e w2 ⟨rfl, hc2, hu2⟩
  have HU2 := Lib.hid (mt_trans (mt_ext hE0.out) hu2)
  have HB2 := Lib.hid (box_at hu2 hB0.out)
  have HC2 := Lib.hid hc2
  have b2 : w2.cell? ⟨w.heap.size, 2, none⟩ = some (.slice A0 ps.length c0) := block_cell HB2.out 2
  have lb2 := block_lt HB2.out
  clear hc2 hu2
  go_wp2
  clear b2 lb2
  go_loopw [66] (fun x wr => ∃ j : Nat, j ≤ ps.length ∧ x = .int .i64 j ∧ Cur W p bg en (mv ++ (genAlt (ps.take j) (m + 1) s m).1) (genAlt (ps.take j) (m + 1) s m).2 wr ∧ Upd (MT w) w wr) (fun x _ => ps.length - (intOf x).toNat)
  case atStart => exact ⟨0, Nat.zero_le _, rfl, by rw [List.take_zero, genAlt, List.append_nil]; exact HC2.out, HU2.out⟩
  case round =>
    rename World => wo
    obtain ⟨j, hj, rfl, hc, hu⟩ := hrel
    have HCJ := Lib.hid hc
    have HUJ := Lib.hid hu
    clear hc hu
    by_cases hlt : j < ps.length
    · have hji : (j : Int) < (ps.length : Int) := by omega
      have hj0 : (0 : Int) ≤ (j : Int) := by omega
      obtain ⟨q, hq⟩ : ∃ q, ps[j]? = some q := ⟨_, List.getElem?_eq_getElem hlt⟩
      have HQ := Lib.hid hq
      obtain ⟨b, o, rfl, hb, hpt⟩ := PS_at (PS_ext HS.out (cur_W HCJ.out)) hq
      have hsz := sizeL_takeAdd hq
      have hqf := form_mem HF.out (List.mem_of_getElem? hq)
      have hqs := sizeL_mem (List.mem_of_getElem? hq)
      have HQF := Lib.hid hqf
      have HSN := Lib.hid (take_snocT hq)
      have hgs := genAlt_size (ps.take j) (m + 1) s m (genSeq_sizeT ps m s j HF.out)
      obtain ⟨a, ha⟩ : ∃ a, a = genAlt (ps.take j) (m + 1) s m := ⟨_, rfl⟩
      rw [← ha] at hgs HCJ
      have HA := Lib.hid ha
      have hq1 := sizeT_pos q
      have hg2 := gen_size q (a.2 + 1) a.2 hqf
      have hp2 := (part_ok q (a.2 + 1) a.2 hqf (Nat.lt_succ_self _)).last2
      have hb0 : a.2 ≤ 90000 := by omega
      have hb1 : a.2 + 1 + 3 * sizeT q ≤ 90000 := by omega
      have hb2 : (mv ++ a.1 ++ [(s, none, a.2)]).length + 5 * sizeT q ≤ 95000 := by rw [List.length_append, List.length_append]; simp; omega
      have hb3 : sizeT q ≤ N := by omega
      have hb4 : s < a.2 + 1 := by omega
      have hb5 : (mv ++ a.1).length ≤ 100000 := by rw [List.length_append]; omega
      have HPS := Lib.hid (PS_at HS.out hq)
      clear hq ha hqf hqs
      obtain ⟨r, hr⟩ : ∃ r, r = gen q (a.2 + 1) a.2 := ⟨_, rfl⟩
      rw [← hr] at hg2 hp2
      have HR := Lib.hid hr
      have hb6 : r.many ≤ 100000 := by omega
      have hb7 : ((mv ++ a.1 ++ [(s, none, a.2)]) ++ r.moves).length ≤ 100000 := by rw [List.length_append]; omega
      have hb8 : (mv ++ a.1 ++ [(s, none, a.2)]).length + 5 * sizeT q ≤ 90000 := by rw [List.length_append, List.length_append]; simp; omega
      clear hr hgs hsz hg2 hb2
      cases q with
      | node k' n' qs =>
        obtain ⟨s2, q0, q1, q2, hs2, _⟩ := PT_val hpt
        obtain ⟨A1, c1, rfl⟩ := PS_form hs2
        obtain ⟨b', o', hbo, _, hptW⟩ := HPS.out
        simp only [Option.some.injEq, Addr.mk.injEq, and_true] at hbo
        obtain ⟨rfl, rfl⟩ := hbo
        obtain ⟨s3, r0, r1, r2, hs3, _⟩ := PT_val hptW
        have e3 : s3 = .slice A1 qs.length c1 := by
          have := (ext_cell (cur_W HCJ.out) _ _ (World.block_lt_of_cell? _ _ r2)).trans r2
          rw [q2] at this
          exact (Option.some.inj this).symm
        subst e3
        have HPV := Lib.hid (show PV W (.node k' n' qs) (.agg #[.int .i64 k', .int .i64 n', .slice A1 qs.length c1]) from ⟨_, rfl, hs3⟩)
        clear hpt hs2 hs3 hptW r0 r1 r2
        go_wp2_with fail
        have hEb : Ext wo (wo.alloc (.cells #[.int .i64 k', .int .i64 n', .slice A1 qs.length c1] 30)) := ext_alloc (ext_refl _) _
        have hBb := heap_alloc_new wo (.cells #[.int .i64 k', .int .i64 n', .slice A1 qs.length c1] 30)
        refine (state_cur W _ p a.2 bg en (mv ++ a.1) (cur_ext HCJ.out hEb) (by omega)).mono ?_
        rintro e w3 ⟨rfl, hc3, hu3⟩
        have HC3 := Lib.hid hc3
        have HU3 := Lib.hid (mt_trans (mt_trans HUJ.out (mt_ext hEb)) hu3)
        have HB3 := Lib.hid (box_at hu3 hBb)
        clear hc3 hu3 hEb hBb q0 q1 q2
        go_wp2_with fail
        refine (free_cur W _ p (a.2 + 1) s a.2 bg en (mv ++ a.1) HC3.out (by omega) hb4 hb5).mono ?_
        rintro e w4 ⟨rfl, hc4, hu4⟩
        have HC4 := Lib.hid hc4
        have HU4 := Lib.hid (mt_trans HU3.out hu4)
        have HB4 := Lib.hid (box_at hu4 HB3.out)
        clear hc4 hu4
        have d0 := block_cell HB4.out 0
        have d1 := block_cell HB4.out 1
        have d2 := block_cell HB4.out 2
        have lb4 := block_lt HB4.out
        simp at d0 d1 d2
        go_wp2_with fail
        refine (HD.out (.node k' n' qs) _ W _ p (a.2 + 1) a.2 bg en (mv ++ a.1 ++ [(s, none, a.2)]) hb3 HQF.out HPV.out HC4.out (Nat.lt_succ_self _) hb1 hb8).mono ?_
        rw [← HR.out]
        rintro e w5 ⟨rfl, hc5, hu5⟩
        have HC5 := Lib.hid hc5
        have HU5 := Lib.hid (mt_trans HU4.out hu5)
        clear hc5 hu5 d0 d1 d2 lb4
        go_wp2_with fail
        refine (free_cur W _ p r.many r.last m bg en _ HC5.out (by omega) hp2 hb7).mono ?_
        rintro e w6 ⟨rfl, hc6, hu6⟩
        have HC6 := Lib.hid hc6
        have HU6 := Lib.hid (mt_trans HU5.out hu6)
        clear hc6 hu6
        go_wp2
        go_roundw
        case rel =>
          refine ⟨j + 1, by omega, by go_num, ?_, HU6.out⟩
          rw [HSN.out, genAlt_snoc, ← HA.out, ← HR.out]
          have := HC6.out
          simpa [List.append_assoc] using this
        case measure => simp [intOf]; omega
    · obtain rfl : j = ps.length := by omega
      rw [List.take_length] at HCJ
      go_wp2
      refine bodyPost_ret (results_tmp rfl _ _ _) rfl ?_
      exact ⟨rfl, HCJ.out, HUJ.out⟩

set_option maxRecDepth 100000 in
theorem lay_loop {N : Nat} (hd : LayAt N) (k n : Int) (hk : k = 4 ∨ k = 5 ∨ k = 6) (q : Tr) (v : Value) (W w : World) (p m s : Nat) (bg en : Int) (mv : List Mv) (hN : sizeT q ≤ N) (hf : Form q) (hv : PV W (.node k n [q]) v) (h : Cur W p bg en mv m w) (hs : s < m) (hm : m + 2 + 3 * sizeT q ≤ 90000) (hl : mv.length + 1 + 5 * sizeT q ≤ 90000) :
    Calls Try.prog 59 #[.pointer (some ⟨p, 0, none⟩), v, .int .i64 s] w fun e w' => e = .returned (.int .i64 (m + 1 : Nat)) ∧ Cur W p bg en (mv ++ (gen (.node k n [q]) m s).moves) (gen (.node k n [q]) m s).many w' ∧ Upd (MT w) w w' := by
  obtain ⟨sv, rfl, hsv⟩ := hv
  obtain ⟨A0, c0, rfl⟩ := PS_form hsv
  have HS := Lib.hid hsv
  have hgen : gen (.node k n [q]) m s = ⟨(s, none, m) :: ((gen q (m + 2) m).moves ++ (((gen q (m + 2) m).last, none, m + 1) :: ((if k = 5 then [] else [(m, none, m + 1)]) ++ (if k = 6 then [] else [(m + 1, none, m)])))), (gen q (m + 2) m).many, m + 1⟩ := by
    rw [gen, if_neg (by omega), if_neg (by omega), if_neg (by omega), genOne]
  rw [hgen]
  obtain ⟨r, hr⟩ : ∃ r, r = gen q (m + 2) m := ⟨_, rfl⟩
  have hg2 := gen_size q (m + 2) m hf
  have hp2 := (part_ok q (m + 2) m hf (by omega)).last2
  rw [← hr] at hg2 hp2 ⊢
  have HR := Lib.hid hr
  have HC := Lib.hid h
  have HF := Lib.hid hf
  have HD := Lib.hid hd
  have hq1 := sizeT_pos q
  have hb1 : (mv ++ [(s, none, m)]).length + 5 * sizeT q ≤ 90000 := by rw [List.length_append]; simp; omega
  have hb2 : ((mv ++ [(s, none, m)]) ++ r.moves).length ≤ 90000 := by rw [List.length_append]; omega
  have hb3 : r.many ≤ 90000 := by omega
  have hb4 : m + 2 ≤ r.many := hg2.1
  have hmv : mv.length ≤ 90000 := by omega
  have hb5 : r.moves.length + mv.length ≤ 90000 := by omega
  have HSQ := Lib.hid (PS_at HS.out (show [q][0]? = some q from rfl))
  clear h hsv hf hd hr hgen hg2
  obtain ⟨b, o, rfl, hb, hptW⟩ := HSQ.out
  cases q with
  | node k' n' qs =>
    obtain ⟨s3, r0, r1, r2, hs3, _⟩ := PT_val hptW
    obtain ⟨A1, c1, rfl⟩ := PS_form hs3
    have HPV := Lib.hid (show PV W (.node k' n' qs) (.agg #[.int .i64 k', .int .i64 n', .slice A1 qs.length c1]) from ⟨_, rfl, hs3⟩)
    have HR0 := Lib.hid r0
    have HR1 := Lib.hid r1
    have HR2 := Lib.hid r2
    simp only [Nat.zero_mul, Nat.add_zero] at HR0 HR1 HR2
    clear hs3 hptW r0 r1 r2 HSQ
    obtain ⟨w1, hw1⟩ : ∃ w1, w1 = w.alloc (.cells #[.int .i64 k, .int .i64 n, .slice (some ⟨b, o, none⟩) 1 c0] 30) := ⟨_, rfl⟩
    have hE0 := Lib.hid (show Ext w w1 by rw [hw1]; exact ext_alloc (ext_refl _) _)
    have hB0 := Lib.hid (show w1.heap[w.heap.size]? = some (.cells #[.int .i64 k, .int .i64 n, .slice (some ⟨b, o, none⟩) 1 c0] 30 (0, 0)) by rw [hw1]; exact heap_alloc_new w _)
    rcases hk with rfl | rfl | rfl
    all_goals
      go_enter Try.func59, Try.ntmps59
      go_wp2_with fail
      rw [← hw1]
      clear hw1
      refine (state_cur W _ p m bg en mv (cur_ext HC.out hE0.out) (by omega)).mono ?_
      rintro e w2 ⟨rfl, hc2, hu2⟩
      have HU2 := Lib.hid (mt_trans (mt_ext hE0.out) hu2)
      have HB2 := Lib.hid (box_at hu2 hB0.out)
      have HC2 := Lib.hid hc2
      clear hc2 hu2
      go_wp2_with fail
      refine (state_cur W _ p (m + 1) bg en mv HC2.out (by omega)).mono ?_
      rintro e w3 ⟨rfl, hc3, hu3⟩
      have HU3 := Lib.hid (mt_trans HU2.out hu3)
      have HB3 := Lib.hid (box_at hu3 HB2.out)
      have HC3 := Lib.hid hc3
      clear hc3 hu3
      go_wp2_with fail
      refine (free_cur W _ p (m + 1 + 1) s m bg en mv HC3.out (by omega) (by omega) (by omega)).mono ?_
      rintro e w4 ⟨rfl, hc4, hu4⟩
      have HU4 := Lib.hid (mt_trans HU3.out hu4)
      have HB4 := Lib.hid (box_at hu4 HB3.out)
      have HC4 := Lib.hid hc4
      clear hc4 hu4
      have d2 : w4.cell? ⟨w.heap.size, 2, none⟩ = some (.slice (some ⟨b, o, none⟩) 1 c0) := block_cell HB4.out 2
      have e0 : w4.cell? ⟨b, o, none⟩ = some (.int .i64 k') := (ext_cell (cur_W HC4.out) _ _ hb).trans HR0.out
      have e1 : w4.cell? ⟨b, o + 1, none⟩ = some (.int .i64 n') := (ext_cell (cur_W HC4.out) _ _ hb).trans HR1.out
      have e2 : w4.cell? ⟨b, o + 2, none⟩ = some (.slice A1 qs.length c1) := (ext_cell (cur_W HC4.out) _ _ hb).trans HR2.out
      have lb4 := block_lt HB4.out
      have lbb := ext_lt (cur_W HC4.out) hb
      go_wp2_with fail
      refine (HD.out (.node k' n' qs) _ W _ p (m + 2) m bg en (mv ++ [(s, none, m)]) hN HF.out HPV.out HC4.out (by omega) hm hb1).mono ?_
      rw [← HR.out]
      rintro e w5 ⟨rfl, hc5, hu5⟩
      have HU5 := Lib.hid (mt_trans HU4.out hu5)
      have HB5 := Lib.hid (box_at hu5 HB4.out)
      have HC5 := Lib.hid hc5
      clear hc5 hu5 d2 e0 e1 e2 lb4 lbb
      go_wp2_with fail
      refine (free_cur W _ p r.many r.last (m + 1) bg en _ HC5.out (by omega) hp2 (by omega)).mono ?_
      rintro e w6 ⟨rfl, hc6, hu6⟩
      have HU6 := Lib.hid (mt_trans HU5.out hu6)
      have HB6 := Lib.hid (box_at hu6 HB5.out)
      have HC6 := Lib.hid hc6
      clear hc6 hu6
      have d0 := block_cell HB6.out 0
      have lb6 := block_lt HB6.out
      simp at d0
    -- once or more, or not at all
    · go_wp2_with fail
      refine (free_cur W _ p r.many m (m + 1) bg en _ HC6.out (by omega) (by omega) (by rw [List.length_append]; simp; omega)).mono ?_
      rintro e w7 ⟨rfl, hc7, hu7⟩
      have HU7 := Lib.hid (mt_trans HU6.out hu7)
      have HB7 := Lib.hid (box_at hu7 HB6.out)
      have HC7 := Lib.hid hc7
      clear hc7 hu7 d0 lb6
      have d0 := block_cell HB7.out 0
      have lb7 := block_lt HB7.out
      simp at d0
      go_wp2_with fail
      refine (free_cur W _ p r.many (m + 1) m bg en _ HC7.out (by omega) (by omega) (by rw [List.length_append, List.length_append]; simp; omega)).mono ?_
      rintro e w8 ⟨rfl, hc8, hu8⟩
      have HU8 := Lib.hid (mt_trans HU7.out hu8)
      have HC8 := Lib.hid hc8
      clear hc8 hu8 d0 lb7
      go_wp2
      refine bodyPost_ret (results_tmp rfl _ _ _) rfl ?_
      exact ⟨rfl, by have := HC8.out; simpa [List.append_assoc] using this, HU8.out⟩
    -- once or more
    · go_wp2_with fail
      refine (free_cur W _ p r.many (m + 1) m bg en _ HC6.out (by omega) (by omega) (by rw [List.length_append]; simp; omega)).mono ?_
      rintro e w7 ⟨rfl, hc7, hu7⟩
      have HU7 := Lib.hid (mt_trans HU6.out hu7)
      have HC7 := Lib.hid hc7
      clear hc7 hu7 d0 lb6
      go_wp2
      refine bodyPost_ret (results_tmp rfl _ _ _) rfl ?_
      exact ⟨rfl, by have := HC7.out; simpa [List.append_assoc] using this, HU7.out⟩
    -- once, or not at all
    · go_wp2_with fail
      refine (free_cur W _ p r.many m (m + 1) bg en _ HC6.out (by omega) (by omega) (by rw [List.length_append]; simp; omega)).mono ?_
      rintro e w7 ⟨rfl, hc7, hu7⟩
      have HU7 := Lib.hid (mt_trans HU6.out hu7)
      have HB7 := Lib.hid (box_at hu7 HB6.out)
      have HC7 := Lib.hid hc7
      clear hc7 hu7 d0 lb6
      have d0 := block_cell HB7.out 0
      have lb7 := block_lt HB7.out
      simp at d0
      go_wp2
      refine bodyPost_ret (results_tmp rfl _ _ _) rfl ?_
      exact ⟨rfl, by have := HC7.out; simpa [List.append_assoc] using this, HU7.out⟩

theorem lay_all : ∀ N : Nat, LayAt N
  | 0 => fun t v W w p m s bg en mv hN => by have := sizeT_pos t; omega
  | N + 1 => fun t v W w p m s bg en mv hN hf hv h hs hm hl => by
    have hd := lay_all N
    cases t with
    | node k n ps =>
      rw [sizeT] at hN hm hl
      rw [Form] at hf
      rcases hf with ⟨hk, rfl, hn⟩ | ⟨hk, hne, hfl⟩ | ⟨hk, ⟨q, rfl⟩, hfl⟩
      · have e : gen (.node k n []) m s = ⟨[(s, some (n, decide (k = 1)), m)], m + 1, m⟩ := by rw [gen, if_pos hk]
        rw [e]
        exact lay_step k n hk v W w p m s bg en mv hv h hs (by omega) (by omega)
      · rcases hk with rfl | rfl
        · have e : gen (.node 2 n ps) m s = genSeq ps m s := by rw [gen, if_neg (by decide), if_pos rfl]
          rw [e]
          exact lay_seq hd n ps v W w p m s bg en mv (by omega) hfl hv h hs (by omega) (by omega)
        · have e : gen (.node 3 n ps) m s = ⟨(genAlt ps (m + 1) s m).1, (genAlt ps (m + 1) s m).2, m⟩ := by rw [gen, if_neg (by decide), if_neg (by decide), if_pos rfl]
          rw [e]
          exact lay_alt hd n ps v W w p m s bg en mv (by omega) hfl hv h hs (by omega) (by omega)
      · have e : (gen (.node k n [q]) m s).last = m + 1 := by rw [gen, if_neg (by omega), if_neg (by omega), if_neg (by omega)]
        have hs1 : sizeL [q] = sizeT q := by rw [sizeL, sizeL, Nat.add_zero]
        rw [hs1] at hN hm hl
        rw [FormL] at hfl
        rw [e]
        exact lay_loop hd k n hk q v W w p m s bg en mv (by omega) hfl.1 hv h hs (by omega) (by omega)
end Go.Proofs.Ytiabmdboacpmcaa
/- Compile. -/
namespace Go.Proofs.Ytiabmdboacpmcaa
open Go Go.RowKit Go.Sort
set_option maxHeartbeats 1000000

theorem cur_set1 {W w : World} {p m : Nat} {bg en : Int} {mv : List Mv} (h : Cur W p bg en mv m w) (b' : Int) : Cur W p b' en mv m (w.setCell ⟨p, 1, none⟩ (.int .i64 b')) ∧ p < w.heap.size ∧ (∃ A c n, w.heap[p]? = some (.cells #[.slice A n c, .int .i64 bg, .int .i64 en] 106 (0, 0))) ∧ W.heap.size ≤ p := by
  obtain ⟨Ms, ⟨hp, A, c, Vs, h1, h2, h3, h4, h5⟩, k2, k3, k4, k5⟩ := h
  refine ⟨⟨Ms, ⟨hp, A, c, Vs, ?_, upd_off h2 h1 (by decide), h3, fun i x l hx hl => upd_off (h4 i x l hx hl) h1 (by decide), h5⟩, k2, k3, k4, ext_set k5 hp _⟩, block_lt h1, ⟨A, c, _, h1⟩, hp⟩
  rw [heap_setCell_at h1]
  rfl
theorem cur_set2 {W w : World} {p m : Nat} {bg en : Int} {mv : List Mv} (h : Cur W p bg en mv m w) (b' : Int) : Cur W p bg b' mv m (w.setCell ⟨p, 2, none⟩ (.int .i64 b')) := by
  obtain ⟨Ms, ⟨hp, A, c, Vs, h1, h2, h3, h4, h5⟩, k2, k3, k4, k5⟩ := h
  refine ⟨Ms, ⟨hp, A, c, Vs, ?_, upd_off h2 h1 (by decide), h3, fun i x l hx hl => upd_off (h4 i x l hx hl) h1 (by decide), h5⟩, k2, k3, k4, ext_set k5 hp _⟩
  rw [heap_setCell_at h1]
  rfl
theorem cur_new (W w : World) (hW : Ext W w) : Cur W w.heap.size 0 0 [] 0 (w.alloc (.cells #[.slice none 0 0, .int .i64 0, .int .i64 0] 106)) :=
  ⟨[], ⟨ext_size hW, none, 0, [], heap_alloc_new _ _, rowF_nil _ _, rfl, fun i x l hx => by simp at hx, fun i j x y b _ hx => by simp at hx⟩, rfl, fun s o d => ⟨fun ⟨l, hl, _⟩ => (by simp at hl), fun h => (by cases h)⟩, fun l hl => (by cases hl), ext_alloc hW _⟩

/-- the machine of a path -/
def MachT (W w : World) (p : Nat) (t : Tr) : Prop := Cur W p 0 ((gen t 1 0).last : Int) (gen t 1 0).moves (gen t 1 0).many w ∧ Form t ∧ sizeT t ≤ 200
theorem machT_ext {W w w' : World} {p : Nat} {t : Tr} (h : MachT W w p t) (hE : Ext w w') : MachT W w' p t := ⟨cur_ext h.1 hE, h.2⟩
theorem chk_ok {t : Tr} (h : chk t = 0) : Form t ∧ sizeT t ≤ 200 := by
  rw [chk] at h
  split at h
  · split at h
    · cases h
    · split at h
      · rename_i h1 h2 h3; exact ⟨formB_iff t h3, by omega⟩
      · cases h
  · cases h

def CompNo (t : Tr) (w : World) (e : Ending) (w' : World) : Prop := e = .returned (.tuple #[.pointer none, .int .i64 (chk t)]) ∧ Ext w w'
def CompYes (t : Tr) (w : World) (e : Ending) (w' : World) : Prop := ∃ p, e = .returned (.tuple #[.pointer (some ⟨p, 0, none⟩), .int .i64 0]) ∧ MachT w w' p t ∧ Ext w w'
theorem compile_no (t : Tr) (v : Value) (w : World) (hN : sizeT t ≤ 100000) (hv : PV w t v) (hc : chk t ≠ 0) : Calls Try.prog 22 #[v] w (CompNo t w) := by
  have HV := Lib.hid hv
  have HN := Lib.hid hN
  obtain ⟨c, hcc⟩ : ∃ c, c = chk t := ⟨_, rfl⟩
  have hne : (c != 0) = true := by rw [hcc]; simpa using hc
  have hne2 : (c == 0) = false := by rw [hcc]; simpa using hc
  have c0 := Lib.hid (fun w1 (hE : Ext w w1) => check_any t v w1 hN (PV_ext hv hE))
  rw [← hcc] at c0
  have HCC := Lib.hid hcc
  clear hcc hc hN
  cases t with
  | node k n ps =>
    obtain ⟨s, rfl, hs⟩ := hv
    obtain ⟨A, cp, rfl⟩ := PS_form hs
    clear hs
    obtain ⟨t, ht⟩ : ∃ t, t = Tr.node k n ps := ⟨_, rfl⟩
    rw [← ht] at HCC ⊢
    clear ht
    go_enter Try.func22, Try.ntmps22
    go_wp2_with (go_at_call 23; refine (c0.out _ (ext_alloc (ext_refl _) _)).mono ?_; rintro e w1 ⟨rfl, hE1⟩; have HE1 := Lib.hid (ext_trans (ext_alloc (ext_refl _) _) hE1); clear hE1)
    refine bodyPost_ret (results_tmp2 rfl _ _ _) rfl ?_
    exact ⟨by rw [← HCC.out]; rfl, HE1.out⟩
theorem compile_yes (t : Tr) (v : Value) (w : World) (hv : PV w t v) (hc : chk t = 0) : Calls Try.prog 22 #[v] w (CompYes t w) := by
  have HV := Lib.hid hv
  have HT := Lib.hid (chk_ok hc)
  have c0 := Lib.hid (fun w1 (hE : Ext w w1) => check_any t v w1 (Nat.le_trans HT.out.2 (by decide)) (PV_ext hv hE))
  rw [hc] at c0
  have HF := Lib.hid (chk_ok hc).1
  have hsz := (chk_ok hc).2
  clear hc
  cases t with
  | node k n ps =>
    obtain ⟨s, rfl, hs⟩ := hv
    obtain ⟨A, cp, rfl⟩ := PS_form hs
    clear hs
    obtain ⟨t, ht⟩ : ∃ t, t = Tr.node k n ps := ⟨_, rfl⟩
    rw [← ht] at hsz HT HF HV ⊢
    clear ht
    go_enter Try.func22, Try.ntmps22
    go_wp2_with fail
    have hE0 : Ext w (w.alloc (.cells #[.int .i64 k, .int .i64 n, .slice A ps.length cp] 30)) := ext_alloc (ext_refl _) _
    have hB0 := heap_alloc_new w (.cells #[.int .i64 k, .int .i64 n, .slice A ps.length cp] 30)
    refine (c0.out _ hE0).mono ?_
    rintro e w1 ⟨rfl, hE1⟩
    have HE1 := Lib.hid (ext_trans hE0 hE1)
    have HB1 := Lib.hid ((ext_block hE1 (block_lt hB0)).trans hB0)
    clear hE1 hE0 hB0
    go_wp2_with fail
    have hE2 : Ext w1 (w1.alloc (.cells #[.slice none 0 0, .int .i64 0, .int .i64 0] 106)) := ext_alloc (ext_refl _) _
    refine (state_cur w _ w1.heap.size 0 0 0 [] (cur_new w w1 HE1.out) (by omega)).mono ?_
    rintro e w2 ⟨rfl, hc2, hu2⟩
    have HB2 := Lib.hid (mt_block hu2 ((ext_block hE2 (block_lt HB1.out)).trans HB1.out) (by decide))
    obtain ⟨k1, k2, ⟨A3, c3, n3, k3⟩, k4⟩ := cur_set1 hc2 0
    have HC2 := Lib.hid k1
    have hq1 := block_cell k3 1
    have hqf := block_frozen k3 1
    have lp := k2
    have hpB : w1.heap.size ≠ w.heap.size := by have := block_lt HB1.out; omega
    have HB3 := Lib.hid (show (w2.setCell ⟨w1.heap.size, 1, none⟩ (.int .i64 0)).heap[w.heap.size]? = some (.cells #[.int .i64 k, .int .i64 n, .slice A ps.length cp] 30 (0, 0)) by rw [Below.heap_setCell _ _ _ _ (by exact fun e => hpB e.symm)]; exact HB2.out)
    simp at hq1
    clear hc2 hu2 k1 k2 k3 k4 hE2
    have HU2 := Lib.hid (show True from trivial)
    go_wp2
    refine wp_gen (fun W0 hW0 => ?_)
    rw [← hW0] at HC2 HB3
    clear hW0 hq1 hqf HB2 HU2 HB1
    obtain ⟨k1, k2, ⟨A4, c4, n4, k3⟩, k4⟩ := cur_set1 HC2.out 0
    have HK3 := Lib.hid k3
    have hnb : ¬ (MT W0 w.heap.size ∨ W0.heap.size ≤ w.heap.size) := fun h => by
      rcases h with ⟨cs, tt, fr, h1, h2⟩ | h
      · rw [HB3.out] at h1
        simp only [Option.some.injEq, Obj.cells.injEq] at h1
        obtain ⟨-, rfl, -⟩ := h1
        simp at h2
      · have := block_lt HB3.out; omega
    have b0 : ∀ pw : UW (fun b => MT W0 b ∨ W0.heap.size ≤ b) W0, pw.val.cell? ⟨w.heap.size, 0, none⟩ = some (.int .i64 k) := uw_cell (block_cell HB3.out 0) hnb
    have b1 : ∀ pw : UW (fun b => MT W0 b ∨ W0.heap.size ≤ b) W0, pw.val.cell? ⟨w.heap.size, 1, none⟩ = some (.int .i64 n) := uw_cell (block_cell HB3.out 1) hnb
    have b2 : ∀ pw : UW (fun b => MT W0 b ∨ W0.heap.size ≤ b) W0, pw.val.cell? ⟨w.heap.size, 2, none⟩ = some (.slice A ps.length cp) := uw_cell (block_cell HB3.out 2) hnb
    have lp0 := k2
    clear k1 k2 k3 k4 hnb lp
    refine wp_region_upd (fp := fun b => MT W0 b ∨ W0.heap.size ≤ b) [] [0, 1, 2, 3, 4, 5] [(6, fun v _ => v = .int .i64 0)] 7 (fun v w' => v = .int .i64 ((gen t 1 0).last : Int) ∧ Cur w w1.heap.size 0 0 (gen t 1 0).moves (gen t 1 0).many w') [8, 9, 10] [6, 7] rfl (by kernel_rfl) (by kernel_rfl) (by kernel_rfl) (fun _ _ d _ _ h => by cases d <;> exact h) ?_
    refine wpPre_nil ?_
    repeat (refine wpU_step rfl (fun K hK => ?_); (try simp only [Oper.quietAt, Oper.quietUpon]); go_simp; (refine hK _ ?_; clear hK K))
    refine wpU_nil ?_
    refine wpGen_step rfl rfl (fun _ _ _ _ h => h) (fun w6 hE6 hS6 => ?_) (fun v0 => ?_)
    · have q1 : w6.cell? ⟨w1.heap.size, 1, none⟩ = some (.int .i64 0) := block_cell ((ext_block hE6 lp0).trans HK3.out) 1
      have l6 := ext_lt hE6 lp0
      simp only [runsAt]
      go_simp
      exact ext_refl _
    refine wpGen_nil ?_
    refine ⟨⟨_, rfl, rfl, fun v a b hE hR => ⟨hR.1, cur_ext hR.2 hE⟩⟩, fun w6 hE6 hS6 o ho => ?_, fun o ho v w6 hU6 hR6 => ?_⟩
    · cases ho
      have hv0 : v0 = .int .i64 0 := hS6 _ (List.mem_cons_self ..)
      subst hv0
      simp only [runsAt]
      go_simp
      have hl := lay_all 200 t _ w w6 w1.heap.size 1 0 0 0 [] HT.out.2 HF.out HV.out (cur_ext HC2.out hE6) (by omega) (by omega) (by simp; omega)
      refine hl.mono ?_
      rintro e w7 ⟨rfl, hc7, hu7⟩
      refine ⟨_, rfl, upd_mono hu7 (fun b hb hm => ?_), rfl, hc7⟩
      rcases Nat.lt_or_ge b W0.heap.size with h | h
      · obtain ⟨cs, tt, fr, h1, h2⟩ := hm
        exact .inl ⟨cs, tt, fr, by rw [← ext_block hE6 h]; exact h1, h2⟩
      · exact .inr h
    · cases ho
      obtain ⟨rfl, hc6⟩ := hR6
      obtain ⟨_, k2, ⟨A5, c5, n5, k3⟩, _⟩ := cur_set1 hc6 0
      have HFIN := Lib.hid (cur_set2 hc6 ((gen t 1 0).last : Int))
      have hq2 := block_cell k3 2
      have hqf := block_frozen k3 2
      simp at hq2
      clear hc6 k3 b0 b1 b2 lp0
      obtain ⟨la, hla⟩ : ∃ la, la = (gen t 1 0).last := ⟨_, rfl⟩
      have HLA := Lib.hid hla
      have HFIN2 : Hid (Cur w w1.heap.size 0 (la : Int) (gen t 1 0).moves (gen t 1 0).many (w6.setCell ⟨w1.heap.size, 2, none⟩ (.int .i64 (la : Int)))) := by rw [hla]; exact HFIN
      rw [← hla]
      clear hla HFIN
      refine wpSeq_of_list [8, 9, 10] [_, _, _] _ _ rfl ?_
      go_wp2
      refine bodyPost_ret (results_tmp2 rfl _ _ _) rfl ?_
      exact ⟨_, rfl, ⟨by rw [← HLA.out]; exact HFIN2.out, HF.out, hsz⟩, cur_W HFIN2.out⟩
end Go.Proofs.Ytiabmdboacpmcaa
