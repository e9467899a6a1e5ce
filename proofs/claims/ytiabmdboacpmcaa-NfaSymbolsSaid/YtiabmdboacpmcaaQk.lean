/- The document's Takes: paths of parts. -/
import Derived.Test.YtiabmdboacpmcaaQj
namespace Go.Proofs.Ytiabmdboacpmcaa
open Go Go.RowKit Go.Sort
set_option maxHeartbeats 1000000

theorem formL_mem : ∀ {ps : List Tr} {q : Tr}, formL ps = true → q ∈ ps → formB q = true
  | p :: r, q, h, hq => by
    rw [formL, Bool.and_eq_true] at h
    rcases List.mem_cons.1 hq with rfl | hq
    · exact h.1
    · exact formL_mem h.2 hq
theorem rtk_seq {N M : Nat} (hP : RPk N M) (m : Int) (ps : List Tr) (rb n x : Nat) (v : Value) (u : List Sy) (w : World) (hne : ps ≠ []) (hN : sizeL ps ≤ N) (hF : formL ps = true) (hM : u.length ≤ M) (hn : n ≤ 100) (hl : Lst w rb n (.node 2 m ps) x) (hu : RdY w v u) : Calls Try.prog 33 #[.slice (some ⟨rb, 0, none⟩) n n, .int .i64 (x : Int), v] w fun e w' => e = .returned (.bool (tk (.node 2 m ps) u)) ∧ Ext w w' := by
  obtain ⟨hx, lrb, q1, q2, A, c, q3, hc, hch⟩ := lst_node hl
  have HLS := Lib.hid (lsL_node hch hc)
  have HLST := Lib.hid hl
  have hxi : (x : Int) < (n : Int) := by omega
  have hx0 : (0 : Int) ≤ (x : Int) := by omega
  obtain ⟨A2, c2, rfl, hc2, hA2⟩ := hu
  have HU := Lib.hid (show RdY w (.slice A2 u.length c2) u from ⟨A2, c2, rfl, hc2, hA2⟩)
  have HCH := Lib.hid hch
  clear hl hch hA2
  have HP := Lib.hid hP
  have ht : tk (.node 2 m ps) u = tkS ps u := by rw [Bool.eq_iff_iff, tk_iff, tkS_iff, words_seq]
  rw [ht]
  clear ht hP
  have HNE := Lib.hid hne
  clear hne
  go_enter Try.func33, Try.ntmps33
  go_wp2_with fail
  refine (HP.out ps rb n _ _ u _ HNE.out hN hM hF hn (lsL_ext HLS.out (ext_alloc (ext_refl _) _)) (rdY_ext HU.out (ext_alloc (ext_refl _) _))).mono ?_
  rintro e w1 ⟨rfl, hE1⟩
  have HE1 := Lib.hid (ext_trans (ext_alloc (ext_refl _) _) hE1)
  clear hE1
  go_wp2
  refine bodyPost_ret (results_tmp rfl _ _ _) rfl ?_
  exact ⟨rfl, HE1.out⟩

theorem rtk_alt {N M : Nat} (hT : RTk N M) (m : Int) (ps : List Tr) (rb n x : Nat) (v : Value) (u : List Sy) (w : World) (hN : sizeL ps ≤ N) (hN1 : N ≤ 100000) (hF : formL ps = true) (hM : u.length ≤ M) (hn : n ≤ 100) (hl : Lst w rb n (.node 3 m ps) x) (hu : RdY w v u) : Calls Try.prog 33 #[.slice (some ⟨rb, 0, none⟩) n n, .int .i64 (x : Int), v] w fun e w' => e = .returned (.bool (tk (.node 3 m ps) u)) ∧ Ext w w' := by
  obtain ⟨hx, lrb, q1, q2, A, c, q3, hc, hch⟩ := lst_node hl
  have HLS := Lib.hid (lsL_node hch hc)
  have HLST := Lib.hid hl
  have hxi : (x : Int) < (n : Int) := by omega
  have hx0 : (0 : Int) ≤ (x : Int) := by omega
  obtain ⟨A2, c2, rfl, hc2, hA2⟩ := hu
  have HU := Lib.hid (show RdY w (.slice A2 u.length c2) u from ⟨A2, c2, rfl, hc2, hA2⟩)
  have HCH := Lib.hid hch
  clear hl hch hA2
  have HT := Lib.hid hT
  have HF := Lib.hid hF
  have hlen := sizeL_len ps
  clear hT hF
  go_enter Try.func33, Try.ntmps33
  go_wp2
  go_loopw [46] (fun x wr => ∃ j : Nat, j ≤ ps.length ∧ x = .int .i64 j ∧ (∀ q ∈ ps.take j, tk q u = false) ∧ Ext w wr ∧ wr.heap[w.heap.size]? = some (.cells #[.int .i64 3, .int .i64 m, .slice A ps.length c] 102 (0, 0))) (fun x _ => ps.length - (intOf x).toNat)
  case atStart => exact ⟨0, Nat.zero_le _, rfl, by simp, ext_alloc (ext_refl _) _, heap_alloc_new _ _⟩
  case round =>
    rename World => wo
    obtain ⟨j, hj, rfl, hno, hE, hb⟩ := hrel
    have HE := Lib.hid hE
    have HB := Lib.hid hb
    have HNO := Lib.hid hno
    have p2 : wo.cell? ⟨w.heap.size, 2, none⟩ = some (.slice A ps.length c) := block_cell hb 2
    have lb := block_lt hb
    clear hE hb hno q1 q2 q3 lrb
    by_cases hlt : j < ps.length
    · have hji : (j : Int) < (ps.length : Int) := by omega
      have hj0 : (0 : Int) ≤ (j : Int) := by omega
      obtain ⟨q, hq⟩ : ∃ q, ps[j]? = some q := ⟨_, List.getElem?_eq_getElem hlt⟩
      have HQ := Lib.hid hq
      have hqs := sizeL_mem (List.mem_of_getElem? hq)
      obtain ⟨g, y, hA, lg, hgy, hyn, hly⟩ := HCH.out j q hq
      subst hA
      have HLY := Lib.hid (lst_ext hly HE.out)
      have hgy' := (ext_cell HE.out _ _ lg).trans hgy
      have lg' := ext_lt HE.out lg
      have HFQ := Lib.hid (formL_mem HF.out (List.mem_of_getElem? hq))
      clear hq hly hgy lg
      go_wp2_with fail
      refine (HT.out q rb n y _ u _ (by omega) hM HFQ.out hn HLY.out (rdY_ext HU.out HE.out)).mono ?_
      rintro e w1 ⟨rfl, hE1⟩
      have HE1 := Lib.hid (ext_trans HE.out hE1)
      have HB1 := Lib.hid ((ext_block hE1 lb).trans HB.out)
      clear hE1 hgy' lg' p2 lb
      cases hfq : tk q u with
      | false =>
        have HFQ := Lib.hid hfq
        clear hfq
        go_wp2
        go_roundw
        case rel => exact ⟨j + 1, by omega, by go_num, fun q' hq' => by
          rw [List.take_add_one, List.mem_append] at hq'
          rcases hq' with h | h
          · exact HNO.out q' h
          · rw [HQ.out] at h
            simp at h
            rw [h]; exact HFQ.out, HE1.out, HB1.out⟩
        case measure => simp [intOf]; omega
      | true =>
        have HFQ := Lib.hid hfq
        clear hfq
        go_wp2
        refine bodyPost_ret (results_tmp rfl _ _ _) rfl ?_
        exact ⟨by rw [(tk_iff _ _).2 ((words_alt m ps u).2 ((wordsAlt_iff ps u).2 ⟨q, List.mem_of_getElem? HQ.out, (tk_iff _ _).1 HFQ.out⟩))]; rfl, HE1.out⟩
    · obtain rfl : j = ps.length := by omega
      rw [List.take_length] at HNO
      go_wp2
      refine bodyPost_ret (results_tmp rfl _ _ _) rfl ?_
      exact ⟨by
        rw [tk_false]
        · rfl
        · intro h
          obtain ⟨q, h1, h2⟩ := (wordsAlt_iff ps u).1 ((words_alt m ps u).1 h)
          exact not_tk (HNO.out q h1) h2, HE.out⟩

theorem rtk_opt {N M : Nat} (hT : RTk N M) (m : Int) (p : Tr) (rb n x : Nat) (v : Value) (u : List Sy) (w : World) (hN : sizeT p ≤ N) (hF : formB p = true) (hM : u.length ≤ M) (hn : n ≤ 100) (hl : Lst w rb n (.node 6 m [p]) x) (hu : RdY w v u) : Calls Try.prog 33 #[.slice (some ⟨rb, 0, none⟩) n n, .int .i64 (x : Int), v] w fun e w' => e = .returned (.bool (tk (.node 6 m [p]) u)) ∧ Ext w w' := by
  obtain ⟨hx, lrb, q1, q2, A, c, q3, hc, hch⟩ := lst_node hl
  have HLS := Lib.hid (lsL_node hch hc)
  have HLST := Lib.hid hl
  have hxi : (x : Int) < (n : Int) := by omega
  have hx0 : (0 : Int) ≤ (x : Int) := by omega
  obtain ⟨A2, c2, rfl, hc2, hA2⟩ := hu
  have HU := Lib.hid (show RdY w (.slice A2 u.length c2) u from ⟨A2, c2, rfl, hc2, hA2⟩)
  have HCH := Lib.hid hch
  clear hl hch hA2
  have HT := Lib.hid hT
  obtain ⟨g, y, hA, lg, hgy, hyn, hly⟩ := HCH.out 0 p rfl
  subst hA
  have HLY := Lib.hid hly
  have l0 : w.heap.size ≠ g := by omega
  simp only [List.length_singleton] at q3 hc
  clear hT hly HCH HLS
  by_cases hu0 : u.length = 0
  · have d0 : ((u.length : Int) == 0) = true := by rw [beq_iff_eq]; omega
    have ht : tk (.node 6 m [p]) u = true := (tk_iff _ _).2 ((words_opt _ _ _).2 (.inl (List.length_eq_zero_iff.1 hu0)))
    rw [ht]
    clear ht hu0
    go_enter Try.func33, Try.ntmps33
    go_wp2
    refine bodyPost_ret (results_tmp rfl _ _ _) rfl ?_
    exact ⟨rfl, ext_alloc (ext_refl _) _⟩
  · have d0 : ((u.length : Int) == 0) = false := by rw [beq_eq_false_iff_ne]; omega
    have ht : tk (.node 6 m [p]) u = tk p u := by
      rw [Bool.eq_iff_iff, tk_iff, tk_iff, words_opt]
      exact ⟨fun h => h.elim (fun e => absurd (by rw [e]; rfl) hu0) id, .inr⟩
    rw [ht]
    clear ht hu0
    go_enter Try.func33, Try.ntmps33
    go_wp2_with fail
    refine (HT.out p rb n y _ u _ hN hM hF hn (lst_ext HLY.out (ext_alloc (ext_refl _) _)) (rdY_ext HU.out (ext_alloc (ext_refl _) _))).mono ?_
    rintro e w1 ⟨rfl, hE1⟩
    have HE1 := Lib.hid (ext_trans (ext_alloc (ext_refl _) _) hE1)
    clear hE1
    go_wp2
    refine bodyPost_ret (results_tmp rfl _ _ _) rfl ?_
    exact ⟨rfl, HE1.out⟩
end Go.Proofs.Ytiabmdboacpmcaa
