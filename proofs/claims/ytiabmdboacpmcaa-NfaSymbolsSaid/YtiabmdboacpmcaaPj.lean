/- lay, of paths one behind the other. -/
import Derived.Test.YtiabmdboacpmcaaPi
namespace Go.Proofs.Ytiabmdboacpmcaa
open Go Go.RowKit Go.Sort
set_option maxHeartbeats 1000000

def LayAt (N : Nat) : Prop := ∀ (t : Tr) (v : Value) (W w : World) (p m s : Nat) (bg en : Int) (mv : List Mv), sizeT t ≤ N → Form t → PV W t v → Cur W p bg en mv m w → s < m → m + 3 * sizeT t ≤ 90000 → mv.length + 5 * sizeT t ≤ 90000 →
  Calls Try.prog 59 #[.pointer (some ⟨p, 0, none⟩), v, .int .i64 s] w fun e w' => e = .returned (.int .i64 (gen t m s).last) ∧ Cur W p bg en (mv ++ (gen t m s).moves) (gen t m s).many w' ∧ Upd (MT w) w w'
theorem take_snocT {ps : List Tr} {j : Nat} {q : Tr} (h : ps[j]? = some q) : ps.take (j + 1) = ps.take j ++ [q] := by
  rw [List.take_add_one, h]; rfl
theorem sizeL_takeLe (ps : List Tr) (j : Nat) : sizeL (ps.take j) ≤ sizeL ps := by
  induction ps generalizing j with
  | nil => simp [sizeL]
  | cons p r ih =>
    cases j with
    | zero => simp [sizeL]
    | succ j =>
      have := ih j
      rw [List.take_succ_cons, sizeL, sizeL]
      omega
theorem sizeL_takeAdd {ps : List Tr} {j : Nat} {q : Tr} (h : ps[j]? = some q) : sizeL (ps.take j) + sizeT q ≤ sizeL ps := by
  induction ps generalizing j with
  | nil => simp at h
  | cons p r ih =>
    cases j with
    | zero =>
      simp only [List.getElem?_cons_zero, Option.some.injEq] at h
      subst h
      simp [sizeL]
    | succ j =>
      have := ih (j := j) (by simpa using h)
      rw [List.take_succ_cons, sizeL, sizeL]
      omega
theorem cur_W {W w : World} {p m : Nat} {bg en : Int} {mv : List Mv} (h : Cur W p bg en mv m w) : Ext W w := by
  obtain ⟨_, _, _, _, _, h5⟩ := h
  exact h5

set_option maxRecDepth 100000 in
theorem lay_seq {N : Nat} (hd : LayAt N) (n : Int) (ps : List Tr) (v : Value) (W w : World) (p m s : Nat) (bg en : Int) (mv : List Mv) (hN : sizeL ps ≤ N) (hf : FormL ps) (hv : PV W (.node 2 n ps) v) (h : Cur W p bg en mv m w) (hs : s < m) (hm : m + 3 * sizeL ps ≤ 90000) (hl : mv.length + 5 * sizeL ps ≤ 90000) :
    Calls Try.prog 59 #[.pointer (some ⟨p, 0, none⟩), v, .int .i64 s] w fun e w' => e = .returned (.int .i64 (genSeq ps m s).last) ∧ Cur W p bg en (mv ++ (genSeq ps m s).moves) (genSeq ps m s).many w' ∧ Upd (MT w) w w' := by
  obtain ⟨sv, rfl, hsv⟩ := hv
  have HS := Lib.hid hsv
  obtain ⟨A0, c0, rfl⟩ := PS_form hsv
  have hlen := sizeL_len ps
  have HC := Lib.hid h
  have HF := Lib.hid hf
  have HD := Lib.hid hd
  clear h hsv hf hd
  obtain ⟨w1, hw1⟩ : ∃ w1, w1 = w.alloc (.cells #[.int .i64 2, .int .i64 n, .slice A0 ps.length c0] 30) := ⟨_, rfl⟩
  have hE0 := Lib.hid (show Ext w w1 by rw [hw1]; exact ext_alloc (ext_refl _) _)
  have hB0 := Lib.hid (show w1.heap[w.heap.size]? = some (.cells #[.int .i64 2, .int .i64 n, .slice A0 ps.length c0] 30 (0, 0)) by rw [hw1]; exact heap_alloc_new w _)
  go_enter Try.func59, Try.ntmps59
  go_wp2
  rw [← hw1]
  clear hw1
  go_loopw [49, 2] (fun x y wr => ∃ j : Nat, j ≤ ps.length ∧ x = .int .i64 j ∧ y = .int .i64 (genSeq (ps.take j) m s).last ∧ Cur W p bg en (mv ++ (genSeq (ps.take j) m s).moves) (genSeq (ps.take j) m s).many wr ∧ Upd (MT w) w wr) (fun x _ _ => ps.length - (intOf x).toNat)
  case atStart => exact ⟨0, Nat.zero_le _, rfl, by rw [List.take_zero, genSeq], by rw [List.take_zero, genSeq, List.append_nil]; exact cur_ext HC.out hE0.out, mt_ext hE0.out⟩
  case round =>
    rename World => wo
    obtain ⟨j, hj, rfl, rfl, hc, hu⟩ := hrel
    have HCJ := Lib.hid hc
    have HUJ := Lib.hid hu
    clear hc hu
    by_cases hlt : j < ps.length
    · have hji : (j : Int) < (ps.length : Int) := by omega
      have hj0 : (0 : Int) ≤ (j : Int) := by omega
      obtain ⟨q, hq⟩ : ∃ q, ps[j]? = some q := ⟨_, List.getElem?_eq_getElem hlt⟩
      have HQ := Lib.hid hq
      obtain ⟨b, o, rfl, hb, hpt⟩ := PS_at (PS_ext HS.out (cur_W HCJ.out)) hq
      have hsz := sizeL_takeAdd hq
      have hqf := form_mem HF.out (List.mem_of_getElem? hq)
      have hqs := sizeL_mem (List.mem_of_getElem? hq)
      have HQF := Lib.hid hqf
      have HSN := Lib.hid (take_snocT hq)
      have hgs := genSeq_size (ps.take j) m s (genSeq_sizeT ps m s j HF.out)
      have hpl := partS_ok (ps.take j) m s (genSeq_sizeT ps m s j HF.out) hs
      obtain ⟨a, ha⟩ : ∃ a, a = genSeq (ps.take j) m s := ⟨_, rfl⟩
      rw [← ha] at hgs hpl HCJ ⊢
      have hlast : a.last < a.many := by
        rcases hpl.last with ⟨_, h⟩ | ⟨_, _, h⟩
        · rw [h]; have := hpl.le; omega
        · exact h
      have HA := Lib.hid ha
      have hb1 : a.many + 3 * sizeT q ≤ 90000 := by omega
      have hb2 : (mv ++ a.moves).length + 5 * sizeT q ≤ 90000 := by rw [List.length_append]; omega
      have hb3 : sizeT q ≤ N := by omega
      have HPS := Lib.hid (PS_at HS.out hq)
      clear hq ha hpl hgs hsz hqf hqs
      cases q with
      | node k' n' qs =>
        obtain ⟨s2, q0, q1, q2, hs2, _⟩ := PT_val hpt
        obtain ⟨A1, c1, rfl⟩ := PS_form hs2
        obtain ⟨b', o', hbo, _, hptW⟩ := HPS.out
        simp only [Option.some.injEq, Addr.mk.injEq, and_true] at hbo
        obtain ⟨rfl, rfl⟩ := hbo
        obtain ⟨s3, r0, r1, r2, hs3, _⟩ := PT_val hptW
        have e3 : s3 = .slice A1 qs.length c1 := by
          have := (ext_cell (cur_W HCJ.out) _ _ (World.block_lt_of_cell? _ _ r2)).trans r2
          rw [q2] at this
          exact (Option.some.inj this).symm
        subst e3
        have HPV := Lib.hid (show PV W (.node k' n' qs) (.agg #[.int .i64 k', .int .i64 n', .slice A1 qs.length c1]) from ⟨_, rfl, hs3⟩)
        clear hpt hs2 hs3 hptW r0 r1 r2
        go_wp2_with fail
        refine (HD.out (.node k' n' qs) _ W _ p a.many a.last bg en (mv ++ a.moves) hb3 HQF.out HPV.out (cur_ext HCJ.out (ext_alloc (ext_refl _) _)) hlast hb1 hb2).mono ?_
        rintro e w2 ⟨rfl, hc2, hu2⟩
        have HC2 := Lib.hid hc2
        have HU2 := Lib.hid (mt_trans (mt_trans HUJ.out (mt_ext (ext_alloc (ext_refl _) _))) hu2)
        clear hc2 hu2
        go_wp2
        go_roundw
        case rel => exact ⟨j + 1, by omega, by go_num, by rw [HSN.out, genSeq_snoc, ← HA.out], by rw [HSN.out, genSeq_snoc, ← HA.out, ← List.append_assoc]; exact HC2.out, HU2.out⟩
        case measure => simp [intOf]; omega
    · obtain rfl : j = ps.length := by omega
      rw [List.take_length] at HCJ ⊢
      go_wp2
      refine bodyPost_ret (results_tmp rfl _ _ _) rfl ?_
      exact ⟨rfl, HCJ.out, HUJ.out⟩
end Go.Proofs.Ytiabmdboacpmcaa
