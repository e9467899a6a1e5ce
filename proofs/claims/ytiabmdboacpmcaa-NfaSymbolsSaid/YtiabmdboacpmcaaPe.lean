/- size and Check of a path. -/
import Derived.Test.YtiabmdboacpmcaaPd
namespace Go.Proofs.Ytiabmdboacpmcaa
open Go Go.RowKit Go.Sort
set_option maxHeartbeats 800000

theorem sizeL_take {ps : List Tr} {j : Nat} {q : Tr} (h : ps[j]? = some q) : sizeL (ps.take (j + 1)) = sizeL (ps.take j) + sizeT q := by
  induction ps generalizing j with
  | nil => simp at h
  | cons p r ih =>
    cases j with
    | zero =>
      simp only [List.getElem?_cons_zero, Option.some.injEq] at h
      subst h
      simp [sizeL]
    | succ j =>
      have := ih (j := j) (by simpa using h)
      rw [List.take_succ_cons, sizeL, this, List.take_succ_cons, sizeL]
      omega
theorem sizeL_le_take (ps : List Tr) (j : Nat) : sizeL (ps.take j) ≤ sizeL ps := by
  induction ps generalizing j with
  | nil => simp [sizeL]
  | cons p r ih =>
    cases j with
    | zero => simp [sizeL]
    | succ j =>
      have := ih j
      rw [List.take_succ_cons, sizeL, sizeL]
      omega
def SizeAt (N : Nat) : Prop := ∀ (t : Tr) (v : Value) (w : World), sizeT t ≤ N → PV w t v → Calls Try.prog 61 #[v] w fun e w' => e = .returned (.int .i64 (sizeT t)) ∧ Ext w w'
theorem size_step {N : Nat} (hd : SizeAt N) (hN1 : N ≤ 100000) : SizeAt (N + 1) := by
  intro t v w hN hv
  cases t with
  | node k n ps =>
    rw [sizeT] at hN ⊢
    obtain ⟨s, rfl, hs⟩ := hv
    have hlen := sizeL_len ps
    have HD := Lib.hid hd
    have HS := Lib.hid hs
    obtain ⟨A, c, rfl⟩ := PS_form hs
    clear hd hs
    go_enter Try.func61, Try.ntmps61
    go_wp2
    go_loopw [9, 3] (fun x y wr => ∃ j : Nat, j ≤ ps.length ∧ x = .int .i64 j ∧ y = .int .i64 ((1 + sizeL (ps.take j) : Nat) : Int) ∧ Ext w wr) (fun x _ _ => ps.length - (intOf x).toNat)
    case atStart => exact ⟨0, Nat.zero_le _, rfl, by simp [sizeL], ext_alloc (ext_refl _) _⟩
    case round =>
      rename World => wo
      obtain ⟨j, hj, rfl, rfl, hE⟩ := hrel
      have HE := Lib.hid hE
      clear hE
      by_cases hlt : j < ps.length
      · have hji : (j : Int) < (ps.length : Int) := by omega
        have hj0 : (0 : Int) ≤ (j : Int) := by omega
        obtain ⟨q, hq⟩ : ∃ q, ps[j]? = some q := ⟨_, List.getElem?_eq_getElem hlt⟩
        have HQ := Lib.hid hq
        have hst := sizeL_take hq
        have hle := sizeL_le_take ps (j + 1)
        have HST := Lib.hid hst
        obtain ⟨m, hm⟩ : ∃ m, m = 1 + sizeL (ps.take j) := ⟨_, rfl⟩
        have hm1 : m + sizeT q ≤ N + 1 := by omega
        have hm0 : 1 ≤ m := by omega
        rw [← hm]
        have HM := Lib.hid hm
        obtain ⟨b, o, rfl, hb, hpt⟩ := PS_at (PS_ext HS.out HE.out) hq
        clear hq hst hm hle
        cases q with
        | node k' n' qs =>
          obtain ⟨s, q0, q1, q2, hs, _⟩ := PT_val hpt
          obtain ⟨A1, c1, rfl⟩ := PS_form hs
          have HPV := Lib.hid (show PV wo (.node k' n' qs) (.agg #[.int .i64 k', .int .i64 n', .slice A1 qs.length c1]) from ⟨_, rfl, hs⟩)
          clear hpt hs
          go_wp2_with fail
          refine (HD.out (.node k' n' qs) _ _ (by omega) (PV_ext HPV.out (ext_alloc (ext_refl _) _))).mono ?_
          rintro e w1 ⟨rfl, hE1⟩
          have HE1 := Lib.hid (ext_trans HE.out (ext_trans (ext_alloc (ext_refl _) _) hE1))
          clear hE1
          go_wp2
          go_roundw
          case rel => exact ⟨j + 1, by omega, by go_num, by rw [HST.out, HM.out]; congr 1; push_cast; omega, HE1.out⟩
          case measure => simp [intOf]; omega
      · obtain rfl : j = ps.length := by omega
        rw [List.take_length]
        go_wp2
        refine bodyPost_ret (results_tmp rfl _ _ _) rfl ?_
        exact ⟨rfl, HE.out⟩
theorem size_all : ∀ N : Nat, N ≤ 100000 → SizeAt N
  | 0, _ => fun t v w hN => by have := sizeT_pos t; omega
  | N + 1, h => size_step (size_all N (by omega)) (by omega)
theorem size_any (t : Tr) (v : Value) (w : World) (hN : sizeT t ≤ 100000) (hv : PV w t v) : Calls Try.prog 61 #[v] w fun e w' => e = .returned (.int .i64 (sizeT t)) ∧ Ext w w' :=
  size_all 100000 (Nat.le_refl _) t v w hN hv

theorem check_any (t : Tr) (v : Value) (w : World) (hN : sizeT t ≤ 100000) (hv : PV w t v) : Calls Try.prog 23 #[v] w fun e w' => e = .returned (.int .i64 (chk t)) ∧ Ext w w' := by
  have HV := Lib.hid hv
  have HN := Lib.hid hN
  obtain ⟨s', hs'⟩ : ∃ z, z = sizeT t := ⟨_, rfl⟩
  have hs1 : s' ≤ 100000 := by omega
  have hsz := Lib.hid (fun w0 (hE : Ext w w0) => size_any t v w0 hN (PV_ext hv hE))
  rw [← hs'] at hsz
  have HS := Lib.hid hs'
  clear hs'
  cases t with
  | node k n ps =>
    obtain ⟨s, rfl, hs⟩ := hv
    obtain ⟨A, c, rfl⟩ := PS_form hs
    clear hs hN
    obtain ⟨t, ht⟩ : ∃ t, t = Tr.node k n ps := ⟨_, rfl⟩
    rw [← ht] at HV HN HS ⊢
    clear ht
    have hE0 := Lib.hid (show Ext w (w.alloc (.cells #[.int .i64 k, .int .i64 n, .slice A ps.length c] 30)) from ext_alloc (ext_refl _) _)
    have hB := Lib.hid (fun (w1 : World) (hE : Ext (w.alloc (.cells #[.int .i64 k, .int .i64 n, .slice A ps.length c] 30)) w1) => (ext_block hE (block_lt (heap_alloc_new w (.cells #[.int .i64 k, .int .i64 n, .slice A ps.length c] 30)))).trans (heap_alloc_new w (.cells #[.int .i64 k, .int .i64 n, .slice A ps.length c] 30)))
    have HCHK := Lib.hid (show chk t = if deepB t 40 then if 200 < sizeT t then 13 else if formB t then 0 else 1 else 15 from rfl)
    rw [← HS.out] at HCHK
    cases hd : deepB t 40 with
    | false =>
      have hc : chk t = 15 := by rw [HCHK.out, hd]; rfl
      have HD := Lib.hid hd
      rw [hc]
      clear hd hc
      go_enter Try.func23, Try.ntmps23
      go_wp2_with (go_at_call 60; refine (deep_any t 40 _ _ HN.out (PV_ext HV.out hE0.out) (by omega) (by omega)).mono ?_; rintro e w1 ⟨rfl, hE1⟩; rw [HD.out]; have HE1 := Lib.hid (ext_trans hE0.out hE1); clear hE1)
      refine bodyPost_ret (results_tmp rfl _ _ _) rfl ?_
      exact ⟨rfl, HE1.out⟩
    | true =>
      have HD := Lib.hid hd
      by_cases h200 : 200 < s'
      · have hc : chk t = 13 := by rw [HCHK.out, hd, if_pos rfl, if_pos h200]
        have h2 : (200 : Int) < (s' : Int) := by omega
        rw [hc]
        clear hd hc
        go_enter Try.func23, Try.ntmps23
        go_wp2_with fail
        refine (deep_any t 40 _ _ HN.out (PV_ext HV.out hE0.out) (by omega) (by omega)).mono ?_
        rintro e w1 ⟨rfl, hE1⟩
        rw [HD.out]
        have HE1 := Lib.hid hE1
        have q0 := block_cell (hB.out w1 hE1) 0
        have q1 := block_cell (hB.out w1 hE1) 1
        have q2 := block_cell (hB.out w1 hE1) 2
        have lb := block_lt (hB.out w1 hE1)
        simp at q0 q1 q2
        clear hE1
        go_wp2_with (go_at_call 61; refine (hsz.out _ (ext_trans hE0.out HE1.out)).mono ?_; rintro e w2 ⟨rfl, hE2⟩; have HE2 := Lib.hid (ext_trans (ext_trans hE0.out HE1.out) hE2); clear hE2)
        refine bodyPost_ret (results_tmp rfl _ _ _) rfl ?_
        exact ⟨rfl, HE2.out⟩
      · have hnl : ¬ (200 : Int) < (s' : Int) := by omega
        cases hf : formB t with
        | true =>
          have hc : chk t = 0 := by rw [HCHK.out, hd, if_pos rfl, if_neg h200, hf]; rfl
          have HF := Lib.hid hf
          rw [hc]
          clear hd hc hf
          go_enter Try.func23, Try.ntmps23
          go_wp2_with fail
          refine (deep_any t 40 _ _ HN.out (PV_ext HV.out hE0.out) (by omega) (by omega)).mono ?_
          rintro e w1 ⟨rfl, hE1⟩
          rw [HD.out]
          have HE1 := Lib.hid hE1
          have q0 := block_cell (hB.out w1 hE1) 0
          have q1 := block_cell (hB.out w1 hE1) 1
          have q2 := block_cell (hB.out w1 hE1) 2
          have lb := block_lt (hB.out w1 hE1)
          simp at q0 q1 q2
          clear hE1
          go_wp2_with fail
          refine (hsz.out _ (ext_trans hE0.out HE1.out)).mono ?_
          rintro e w2 ⟨rfl, hE2⟩
          have HE2 := Lib.hid (ext_trans HE1.out hE2)
          clear hE2 q0 q1 q2 lb
          have q0 := block_cell (hB.out w2 HE2.out) 0
          have q1 := block_cell (hB.out w2 HE2.out) 1
          have q2 := block_cell (hB.out w2 HE2.out) 2
          have lb := block_lt (hB.out w2 HE2.out)
          simp at q0 q1 q2
          go_wp2_with (go_at_call 62; refine (form_any t _ _ HN.out (PV_ext HV.out (ext_trans hE0.out HE2.out))).mono ?_; rintro e w3 ⟨rfl, hE3⟩; rw [HF.out]; have HE3 := Lib.hid (ext_trans (ext_trans hE0.out HE2.out) hE3); clear hE3)
          refine bodyPost_ret (results_tmp rfl _ _ _) rfl ?_
          exact ⟨rfl, HE3.out⟩
        | false =>
          have hc : chk t = 1 := by rw [HCHK.out, hd, if_pos rfl, if_neg h200, hf]; rfl
          have HF := Lib.hid hf
          rw [hc]
          clear hd hc hf
          go_enter Try.func23, Try.ntmps23
          go_wp2_with fail
          refine (deep_any t 40 _ _ HN.out (PV_ext HV.out hE0.out) (by omega) (by omega)).mono ?_
          rintro e w1 ⟨rfl, hE1⟩
          rw [HD.out]
          have HE1 := Lib.hid hE1
          have q0 := block_cell (hB.out w1 hE1) 0
          have q1 := block_cell (hB.out w1 hE1) 1
          have q2 := block_cell (hB.out w1 hE1) 2
          have lb := block_lt (hB.out w1 hE1)
          simp at q0 q1 q2
          clear hE1
          go_wp2_with fail
          refine (hsz.out _ (ext_trans hE0.out HE1.out)).mono ?_
          rintro e w2 ⟨rfl, hE2⟩
          have HE2 := Lib.hid (ext_trans HE1.out hE2)
          clear hE2 q0 q1 q2 lb
          have q0 := block_cell (hB.out w2 HE2.out) 0
          have q1 := block_cell (hB.out w2 HE2.out) 1
          have q2 := block_cell (hB.out w2 HE2.out) 2
          have lb := block_lt (hB.out w2 HE2.out)
          simp at q0 q1 q2
          go_wp2_with (go_at_call 62; refine (form_any t _ _ HN.out (PV_ext HV.out (ext_trans hE0.out HE2.out))).mono ?_; rintro e w3 ⟨rfl, hE3⟩; rw [HF.out]; have HE3 := Lib.hid (ext_trans (ext_trans hE0.out HE2.out) hE3); clear hE3)
          refine bodyPost_ret (results_tmp rfl _ _ _) rfl ?_
          exact ⟨rfl, HE3.out⟩
end Go.Proofs.Ytiabmdboacpmcaa
