/- Texts joined: Pz Qa Qd Qe Qf Qp. -/
import Derived.Test.YtiabmdboacpmcaaY18
import Derived.Deep.QuietTactic
import Derived.BigQuiet
/- The document's form and Check. -/
namespace Go.Proofs.Ytiabmdboacpmcaa
open Go Go.RowKit Go.Sort
set_option maxHeartbeats 1000000

theorem formL_take {ps : List Tr} {j : Nat} {q : Tr} (h : ps[j]? = some q) : formL (ps.take (j + 1)) = (formL (ps.take j) && formB q) := by
  induction ps generalizing j with
  | nil => simp at h
  | cons p r ih =>
    cases j with
    | zero =>
      simp only [List.getElem?_cons_zero, Option.some.injEq] at h
      subst h
      simp [formL]
    | succ j =>
      have := ih (j := j) (by simpa using h)
      rw [List.take_succ_cons, formL, this, List.take_succ_cons, formL, Bool.and_assoc]
theorem formL_false {ps : List Tr} {j : Nat} {q : Tr} (h : ps[j]? = some q) (hf : formB q = false) : formL ps = false := by
  induction ps generalizing j with
  | nil => simp at h
  | cons p r ih =>
    rw [formL]
    cases j with
    | zero =>
      simp only [List.getElem?_cons_zero, Option.some.injEq] at h
      subst h
      rw [hf]; rfl
    | succ j =>
      rw [ih (j := j) (by simpa using h), Bool.and_false]
def RFormAt (N : Nat) : Prop := ∀ (t : Tr) (rb n x : Nat) (w : World), sizeT t ≤ N → n ≤ 100 → Lst w rb n t x → Calls Try.prog 57 #[.slice (some ⟨rb, 0, none⟩) n n, .int .i64 (x : Int)] w fun e w' => e = .returned (.bool (formB t)) ∧ Ext w w'
theorem rform_step {N : Nat} (hd : RFormAt N) (hN1 : N ≤ 100000) : RFormAt (N + 1) := by
  intro t rb n x w hN hn hl
  cases t with
  | node k m ps =>
    rw [sizeT] at hN
    have hlen := sizeL_len ps
    have HD := Lib.hid hd
    obtain ⟨hx, lrb, q1, q2, A, c, q3, hc, hch⟩ := lst_node hl
    have hxi : (x : Int) < (n : Int) := by omega
    have hx0 : (0 : Int) ≤ (x : Int) := by omega
    have HCH := Lib.hid hch
    clear hd hl hch
    by_cases hlo : k < 0
    · have hf : formB (.node k m ps) = false := by rw [formB, if_neg (by omega), if_neg (by omega), if_neg (by omega)]
      rw [hf]
      clear hf
      go_enter Try.func57, Try.ntmps57
      go_wp2
      refine bodyPost_ret (results_tmp rfl _ _ _) rfl ?_
      exact ⟨rfl, ext_alloc (ext_refl _) _⟩
    by_cases hhi : 6 < k
    · have hf : formB (.node k m ps) = false := by rw [formB, if_neg (by omega), if_neg (by omega), if_neg (by omega)]
      rw [hf]
      clear hf
      go_enter Try.func57, Try.ntmps57
      go_wp2
      refine bodyPost_ret (results_tmp rfl _ _ _) rfl ?_
      exact ⟨rfl, ext_alloc (ext_refl _) _⟩
    by_cases h01 : k = 0 ∨ k = 1
    · have hf : formB (.node k m ps) = (decide (ps = []) && decide (0 ≤ m)) := by rw [formB, if_pos h01]
      rw [hf]
      clear hf
      by_cases hps : ps = []
      · subst hps
        simp only [List.length_nil] at *
        by_cases hm : 0 ≤ m
        · rw [decide_eq_true hm]
          rcases h01 with rfl | rfl
          · go_enter Try.func57, Try.ntmps57
            go_wp2
            go_loopw [63] (fun x wr => x = .int .i64 0 ∧ Ext w wr) (fun _ _ => 0)
            case atStart => exact ⟨rfl, ext_alloc (ext_refl _) _⟩
            case round =>
              obtain ⟨rfl, hE⟩ := hrel
              have HE := Lib.hid hE
              clear hE
              go_wp2
              refine bodyPost_ret (results_tmp rfl _ _ _) rfl ?_
              exact ⟨rfl, HE.out⟩
          · go_enter Try.func57, Try.ntmps57
            go_wp2
            go_loopw [63] (fun x wr => x = .int .i64 0 ∧ Ext w wr) (fun _ _ => 0)
            case atStart => exact ⟨rfl, ext_alloc (ext_refl _) _⟩
            case round =>
              obtain ⟨rfl, hE⟩ := hrel
              have HE := Lib.hid hE
              clear hE
              go_wp2
              refine bodyPost_ret (results_tmp rfl _ _ _) rfl ?_
              exact ⟨rfl, HE.out⟩
        · rw [decide_eq_false hm]
          rcases h01 with rfl | rfl
          all_goals
            go_enter Try.func57, Try.ntmps57
            go_wp2
            refine bodyPost_ret (results_tmp rfl _ _ _) rfl ?_
            exact ⟨rfl, ext_alloc (ext_refl _) _⟩
      · rw [decide_eq_false hps, Bool.false_and]
        have hl0 : (0 : Int) < (ps.length : Int) := by have := List.length_pos_iff.2 hps; omega
        have H := Lib.hid hps
        clear hps
        rcases h01 with rfl | rfl
        all_goals
          go_enter Try.func57, Try.ntmps57
          go_wp2
          refine bodyPost_ret (results_tmp rfl _ _ _) rfl ?_
          exact ⟨rfl, ext_alloc (ext_refl _) _⟩
    by_cases h23 : k = 2 ∨ k = 3
    · have hf : formB (.node k m ps) = (!decide (ps = []) && formL ps) := by rw [formB, if_neg h01, if_pos h23]
      rw [hf]
      clear hf h01
      by_cases hps : ps = []
      · subst hps
        simp only [List.length_nil] at *
        rcases h23 with rfl | rfl
        all_goals
          go_enter Try.func57, Try.ntmps57
          go_wp2
          refine bodyPost_ret (results_tmp rfl _ _ _) rfl ?_
          exact ⟨rfl, ext_alloc (ext_refl _) _⟩
      · rw [decide_eq_false hps, Bool.not_false, Bool.true_and]
        have hl0 : ((ps.length : Int) == 0) = false := by have := List.length_pos_iff.2 hps; rw [beq_eq_false_iff_ne]; omega
        have H := Lib.hid hps
        clear hps
        rcases h23 with rfl | rfl
        · go_enter Try.func57, Try.ntmps57
          go_wp2
          go_loopw [63] (fun x wr => ∃ j : Nat, j ≤ ps.length ∧ x = .int .i64 j ∧ formL (ps.take j) = true ∧ Ext w wr ∧ wr.heap[w.heap.size]? = some (.cells #[.int .i64 2, .int .i64 m, .slice A ps.length c] 102 (0, 0))) (fun x _ => ps.length - (intOf x).toNat)
          case atStart => exact ⟨0, Nat.zero_le _, rfl, by simp [formL], ext_alloc (ext_refl _) _, heap_alloc_new _ _⟩
          case round =>
            rename World => wo
            obtain ⟨j, hj, rfl, hf, hE, hb⟩ := hrel
            have HE := Lib.hid hE
            have HB := Lib.hid hb
            have HF := Lib.hid hf
            have p2 : wo.cell? ⟨w.heap.size, 2, none⟩ = some (.slice A ps.length c) := block_cell hb 2
            have lb := block_lt hb
            clear hE hb hf q1 q2 q3 lrb
            by_cases hlt : j < ps.length
            · have hji : (j : Int) < (ps.length : Int) := by omega
              have hj0 : (0 : Int) ≤ (j : Int) := by omega
              obtain ⟨q, hq⟩ : ∃ q, ps[j]? = some q := ⟨_, List.getElem?_eq_getElem hlt⟩
              have HQ := Lib.hid hq
              have hqs := sizeL_mem (List.mem_of_getElem? hq)
              obtain ⟨g, y, hA, lg, hgy, hyn, hly⟩ := HCH.out j q hq
              subst hA
              have HLY := Lib.hid (lst_ext hly HE.out)
              have hgy' := (ext_cell HE.out _ _ lg).trans hgy
              have lg' := ext_lt HE.out lg
              clear hq hly hgy lg
              go_wp2_with fail
              refine (HD.out q rb n y _ (by omega) hn HLY.out).mono ?_
              rintro e w1 ⟨rfl, hE1⟩
              have HE1 := Lib.hid (ext_trans HE.out hE1)
              have HB1 := Lib.hid ((ext_block hE1 lb).trans HB.out)
              clear hE1 hgy' lg' p2 lb
              cases hfq : formB q with
              | true =>
                have HFQ := Lib.hid hfq
                clear hfq
                go_wp2
                go_roundw
                case rel => exact ⟨j + 1, by omega, by go_num, by rw [formL_take HQ.out, HF.out, HFQ.out]; rfl, HE1.out, HB1.out⟩
                case measure => simp [intOf]; omega
              | false =>
                have HFQ := Lib.hid hfq
                clear hfq
                go_wp2
                refine bodyPost_ret (results_tmp rfl _ _ _) rfl ?_
                exact ⟨by rw [formL_false HQ.out HFQ.out]; rfl, HE1.out⟩
            · obtain rfl : j = ps.length := by omega
              rw [List.take_length] at HF
              go_wp2
              refine bodyPost_ret (results_tmp rfl _ _ _) rfl ?_
              exact ⟨by rw [HF.out]; rfl, HE.out⟩
        · go_enter Try.func57, Try.ntmps57
          go_wp2
          go_loopw [63] (fun x wr => ∃ j : Nat, j ≤ ps.length ∧ x = .int .i64 j ∧ formL (ps.take j) = true ∧ Ext w wr ∧ wr.heap[w.heap.size]? = some (.cells #[.int .i64 3, .int .i64 m, .slice A ps.length c] 102 (0, 0))) (fun x _ => ps.length - (intOf x).toNat)
          case atStart => exact ⟨0, Nat.zero_le _, rfl, by simp [formL], ext_alloc (ext_refl _) _, heap_alloc_new _ _⟩
          case round =>
            rename World => wo
            obtain ⟨j, hj, rfl, hf, hE, hb⟩ := hrel
            have HE := Lib.hid hE
            have HB := Lib.hid hb
            have HF := Lib.hid hf
            have p2 : wo.cell? ⟨w.heap.size, 2, none⟩ = some (.slice A ps.length c) := block_cell hb 2
            have lb := block_lt hb
            clear hE hb hf q1 q2 q3 lrb
            by_cases hlt : j < ps.length
            · have hji : (j : Int) < (ps.length : Int) := by omega
              have hj0 : (0 : Int) ≤ (j : Int) := by omega
              obtain ⟨q, hq⟩ : ∃ q, ps[j]? = some q := ⟨_, List.getElem?_eq_getElem hlt⟩
              have HQ := Lib.hid hq
              have hqs := sizeL_mem (List.mem_of_getElem? hq)
              obtain ⟨g, y, hA, lg, hgy, hyn, hly⟩ := HCH.out j q hq
              subst hA
              have HLY := Lib.hid (lst_ext hly HE.out)
              have hgy' := (ext_cell HE.out _ _ lg).trans hgy
              have lg' := ext_lt HE.out lg
              clear hq hly hgy lg
              go_wp2_with fail
              refine (HD.out q rb n y _ (by omega) hn HLY.out).mono ?_
              rintro e w1 ⟨rfl, hE1⟩
              have HE1 := Lib.hid (ext_trans HE.out hE1)
              have HB1 := Lib.hid ((ext_block hE1 lb).trans HB.out)
              clear hE1 hgy' lg' p2 lb
              cases hfq : formB q with
              | true =>
                have HFQ := Lib.hid hfq
                clear hfq
                go_wp2
                go_roundw
                case rel => exact ⟨j + 1, by omega, by go_num, by rw [formL_take HQ.out, HF.out, HFQ.out]; rfl, HE1.out, HB1.out⟩
                case measure => simp [intOf]; omega
              | false =>
                have HFQ := Lib.hid hfq
                clear hfq
                go_wp2
                refine bodyPost_ret (results_tmp rfl _ _ _) rfl ?_
                exact ⟨by rw [formL_false HQ.out HFQ.out]; rfl, HE1.out⟩
            · obtain rfl : j = ps.length := by omega
              rw [List.take_length] at HF
              go_wp2
              refine bodyPost_ret (results_tmp rfl _ _ _) rfl ?_
              exact ⟨by rw [HF.out]; rfl, HE.out⟩
    have h456 : k = 4 ∨ k = 5 ∨ k = 6 := by omega
    have hf : formB (.node k m ps) = (decide (ps.length = 1) && formL ps) := by rw [formB, if_neg h01, if_neg h23, if_pos h456]
    rw [hf]
    clear hf h01 h23
    by_cases hl : ps.length = 1
    · rw [decide_eq_true hl, Bool.true_and]
      have hl1 : ((ps.length : Int) != 1) = false := by rw [hl]; rfl
      have H := Lib.hid hl
      clear hl
      rcases h456 with rfl | rfl | rfl
      · go_enter Try.func57, Try.ntmps57
        go_wp2
        go_loopw [63] (fun x wr => ∃ j : Nat, j ≤ ps.length ∧ x = .int .i64 j ∧ formL (ps.take j) = true ∧ Ext w wr ∧ wr.heap[w.heap.size]? = some (.cells #[.int .i64 4, .int .i64 m, .slice A ps.length c] 102 (0, 0))) (fun x _ => ps.length - (intOf x).toNat)
        case atStart => exact ⟨0, Nat.zero_le _, rfl, by simp [formL], ext_alloc (ext_refl _) _, heap_alloc_new _ _⟩
        case round =>
          rename World => wo
          obtain ⟨j, hj, rfl, hf, hE, hb⟩ := hrel
          have HE := Lib.hid hE
          have HB := Lib.hid hb
          have HF := Lib.hid hf
          have p2 : wo.cell? ⟨w.heap.size, 2, none⟩ = some (.slice A ps.length c) := block_cell hb 2
          have lb := block_lt hb
          clear hE hb hf q1 q2 q3 lrb
          by_cases hlt : j < ps.length
          · have hji : (j : Int) < (ps.length : Int) := by omega
            have hj0 : (0 : Int) ≤ (j : Int) := by omega
            obtain ⟨q, hq⟩ : ∃ q, ps[j]? = some q := ⟨_, List.getElem?_eq_getElem hlt⟩
            have HQ := Lib.hid hq
            have hqs := sizeL_mem (List.mem_of_getElem? hq)
            obtain ⟨g, y, hA, lg, hgy, hyn, hly⟩ := HCH.out j q hq
            subst hA
            have HLY := Lib.hid (lst_ext hly HE.out)
            have hgy' := (ext_cell HE.out _ _ lg).trans hgy
            have lg' := ext_lt HE.out lg
            clear hq hly hgy lg
            go_wp2_with fail
            refine (HD.out q rb n y _ (by omega) hn HLY.out).mono ?_
            rintro e w1 ⟨rfl, hE1⟩
            have HE1 := Lib.hid (ext_trans HE.out hE1)
            have HB1 := Lib.hid ((ext_block hE1 lb).trans HB.out)
            clear hE1 hgy' lg' p2 lb
            cases hfq : formB q with
            | true =>
              have HFQ := Lib.hid hfq
              clear hfq
              go_wp2
              go_roundw
              case rel => exact ⟨j + 1, by omega, by go_num, by rw [formL_take HQ.out, HF.out, HFQ.out]; rfl, HE1.out, HB1.out⟩
              case measure => simp [intOf]; omega
            | false =>
              have HFQ := Lib.hid hfq
              clear hfq
              go_wp2
              refine bodyPost_ret (results_tmp rfl _ _ _) rfl ?_
              exact ⟨by rw [formL_false HQ.out HFQ.out]; rfl, HE1.out⟩
          · obtain rfl : j = ps.length := by omega
            rw [List.take_length] at HF
            go_wp2
            refine bodyPost_ret (results_tmp rfl _ _ _) rfl ?_
            exact ⟨by rw [HF.out]; rfl, HE.out⟩
      · go_enter Try.func57, Try.ntmps57
        go_wp2
        go_loopw [63] (fun x wr => ∃ j : Nat, j ≤ ps.length ∧ x = .int .i64 j ∧ formL (ps.take j) = true ∧ Ext w wr ∧ wr.heap[w.heap.size]? = some (.cells #[.int .i64 5, .int .i64 m, .slice A ps.length c] 102 (0, 0))) (fun x _ => ps.length - (intOf x).toNat)
        case atStart => exact ⟨0, Nat.zero_le _, rfl, by simp [formL], ext_alloc (ext_refl _) _, heap_alloc_new _ _⟩
        case round =>
          rename World => wo
          obtain ⟨j, hj, rfl, hf, hE, hb⟩ := hrel
          have HE := Lib.hid hE
          have HB := Lib.hid hb
          have HF := Lib.hid hf
          have p2 : wo.cell? ⟨w.heap.size, 2, none⟩ = some (.slice A ps.length c) := block_cell hb 2
          have lb := block_lt hb
          clear hE hb hf q1 q2 q3 lrb
          by_cases hlt : j < ps.length
          · have hji : (j : Int) < (ps.length : Int) := by omega
            have hj0 : (0 : Int) ≤ (j : Int) := by omega
            obtain ⟨q, hq⟩ : ∃ q, ps[j]? = some q := ⟨_, List.getElem?_eq_getElem hlt⟩
            have HQ := Lib.hid hq
            have hqs := sizeL_mem (List.mem_of_getElem? hq)
            obtain ⟨g, y, hA, lg, hgy, hyn, hly⟩ := HCH.out j q hq
            subst hA
            have HLY := Lib.hid (lst_ext hly HE.out)
            have hgy' := (ext_cell HE.out _ _ lg).trans hgy
            have lg' := ext_lt HE.out lg
            clear hq hly hgy lg
            go_wp2_with fail
            refine (HD.out q rb n y _ (by omega) hn HLY.out).mono ?_
            rintro e w1 ⟨rfl, hE1⟩
            have HE1 := Lib.hid (ext_trans HE.out hE1)
            have HB1 := Lib.hid ((ext_block hE1 lb).trans HB.out)
            clear hE1 hgy' lg' p2 lb
            cases hfq : formB q with
            | true =>
              have HFQ := Lib.hid hfq
              clear hfq
              go_wp2
              go_roundw
              case rel => exact ⟨j + 1, by omega, by go_num, by rw [formL_take HQ.out, HF.out, HFQ.out]; rfl, HE1.out, HB1.out⟩
              case measure => simp [intOf]; omega
            | false =>
              have HFQ := Lib.hid hfq
              clear hfq
              go_wp2
              refine bodyPost_ret (results_tmp rfl _ _ _) rfl ?_
              exact ⟨by rw [formL_false HQ.out HFQ.out]; rfl, HE1.out⟩
          · obtain rfl : j = ps.length := by omega
            rw [List.take_length] at HF
            go_wp2
            refine bodyPost_ret (results_tmp rfl _ _ _) rfl ?_
            exact ⟨by rw [HF.out]; rfl, HE.out⟩
      · go_enter Try.func57, Try.ntmps57
        go_wp2
        go_loopw [63] (fun x wr => ∃ j : Nat, j ≤ ps.length ∧ x = .int .i64 j ∧ formL (ps.take j) = true ∧ Ext w wr ∧ wr.heap[w.heap.size]? = some (.cells #[.int .i64 6, .int .i64 m, .slice A ps.length c] 102 (0, 0))) (fun x _ => ps.length - (intOf x).toNat)
        case atStart => exact ⟨0, Nat.zero_le _, rfl, by simp [formL], ext_alloc (ext_refl _) _, heap_alloc_new _ _⟩
        case round =>
          rename World => wo
          obtain ⟨j, hj, rfl, hf, hE, hb⟩ := hrel
          have HE := Lib.hid hE
          have HB := Lib.hid hb
          have HF := Lib.hid hf
          have p2 : wo.cell? ⟨w.heap.size, 2, none⟩ = some (.slice A ps.length c) := block_cell hb 2
          have lb := block_lt hb
          clear hE hb hf q1 q2 q3 lrb
          by_cases hlt : j < ps.length
          · have hji : (j : Int) < (ps.length : Int) := by omega
            have hj0 : (0 : Int) ≤ (j : Int) := by omega
            obtain ⟨q, hq⟩ : ∃ q, ps[j]? = some q := ⟨_, List.getElem?_eq_getElem hlt⟩
            have HQ := Lib.hid hq
            have hqs := sizeL_mem (List.mem_of_getElem? hq)
            obtain ⟨g, y, hA, lg, hgy, hyn, hly⟩ := HCH.out j q hq
            subst hA
            have HLY := Lib.hid (lst_ext hly HE.out)
            have hgy' := (ext_cell HE.out _ _ lg).trans hgy
            have lg' := ext_lt HE.out lg
            clear hq hly hgy lg
            go_wp2_with fail
            refine (HD.out q rb n y _ (by omega) hn HLY.out).mono ?_
            rintro e w1 ⟨rfl, hE1⟩
            have HE1 := Lib.hid (ext_trans HE.out hE1)
            have HB1 := Lib.hid ((ext_block hE1 lb).trans HB.out)
            clear hE1 hgy' lg' p2 lb
            cases hfq : formB q with
            | true =>
              have HFQ := Lib.hid hfq
              clear hfq
              go_wp2
              go_roundw
              case rel => exact ⟨j + 1, by omega, by go_num, by rw [formL_take HQ.out, HF.out, HFQ.out]; rfl, HE1.out, HB1.out⟩
              case measure => simp [intOf]; omega
            | false =>
              have HFQ := Lib.hid hfq
              clear hfq
              go_wp2
              refine bodyPost_ret (results_tmp rfl _ _ _) rfl ?_
              exact ⟨by rw [formL_false HQ.out HFQ.out]; rfl, HE1.out⟩
          · obtain rfl : j = ps.length := by omega
            rw [List.take_length] at HF
            go_wp2
            refine bodyPost_ret (results_tmp rfl _ _ _) rfl ?_
            exact ⟨by rw [HF.out]; rfl, HE.out⟩
    · rw [decide_eq_false hl, Bool.false_and]
      have hl1 : ((ps.length : Int) != 1) = true := by rw [bne_iff_ne]; omega
      clear hl
      rcases h456 with rfl | rfl | rfl
      all_goals
        go_enter Try.func57, Try.ntmps57
        go_wp2
        refine bodyPost_ret (results_tmp rfl _ _ _) rfl ?_
        exact ⟨rfl, ext_alloc (ext_refl _) _⟩
theorem rform_all : ∀ N : Nat, N ≤ 100000 → RFormAt N
  | 0, _ => fun t rb n x w hN => by have := sizeT_pos t; omega
  | N + 1, h => rform_step (rform_all N (by omega)) (by omega)
end Go.Proofs.Ytiabmdboacpmcaa
/- The document's Check. -/
namespace Go.Proofs.Ytiabmdboacpmcaa
open Go Go.RowKit Go.Sort
set_option maxHeartbeats 1000000

theorem rcheck_any (t : Tr) (rb n x : Nat) (w : World) (hN : sizeT t ≤ 100000) (hn : n ≤ 100) (hl : Lst w rb n t x) : Calls Try.prog 21 #[.slice (some ⟨rb, 0, none⟩) n n, .int .i64 (x : Int)] w fun e w' => e = .returned (.int .i64 (chk t)) ∧ Ext w w' := by
  have HL := Lib.hid hl
  have HN := Lib.hid hN
  have HC := Lib.hid (show chk t = if deepB t 40 then if 200 < sizeT t then 13 else if formB t then 0 else 1 else 15 from rfl)
  have hdd := deep_depth t 40
  have hds := depth_size t
  obtain ⟨dq, hdq⟩ : ∃ dq, dq = depthT t := ⟨_, rfl⟩
  obtain ⟨sz, hsz⟩ : ∃ sz, sz = sizeT t := ⟨_, rfl⟩
  rw [← hdq] at hdd hds
  rw [← hsz] at hds hN HC
  have HDQ := Lib.hid hdq
  have HSZ := Lib.hid hsz
  have HDD := Lib.hid hdd
  clear hdq hsz hdd hl
  go_enter Try.func21, Try.ntmps21
  go_wp2_with fail
  refine (rdepth_all 100000 (Nat.le_refl _) t rb n x w HN.out hn HL.out).mono ?_
  rintro e w1 ⟨rfl, hE1⟩
  rw [← HDQ.out]
  have HE1 := Lib.hid hE1
  clear hE1
  by_cases hd : 40 < dq
  · have hdi : (40 : Int) < (dq : Int) := by omega
    have hc := Lib.hid (show chk t = 15 by rw [HC.out, show deepB t 40 = false from (HDD.out.trans (decide_eq_false (by omega)))]; rfl)
    go_wp2
    refine bodyPost_ret (results_tmp rfl _ _ _) rfl ?_
    exact ⟨by rw [hc.out]; rfl, HE1.out⟩
  · have hdi : ¬ (40 : Int) < (dq : Int) := by omega
    have hdt := Lib.hid (show deepB t 40 = true from (HDD.out.trans (decide_eq_true (by omega))))
    go_wp2_with fail
    refine (rsize_all 100000 (Nat.le_refl _) t rb n x w1 HN.out hn (lst_ext HL.out HE1.out)).mono ?_
    rintro e w2 ⟨rfl, hE2⟩
    rw [← HSZ.out]
    have HE2 := Lib.hid (ext_trans HE1.out hE2)
    clear hE2
    by_cases hs : 200 < sz
    · have hsi : (200 : Int) < (sz : Int) := by omega
      have hc := Lib.hid (show chk t = 13 by rw [HC.out, hdt.out, if_pos rfl, if_pos hs])
      go_wp2
      refine bodyPost_ret (results_tmp rfl _ _ _) rfl ?_
      exact ⟨by rw [hc.out]; rfl, HE2.out⟩
    · have hsi : ¬ (200 : Int) < (sz : Int) := by omega
      have hc0 := Lib.hid (show chk t = if formB t then 0 else 1 by rw [HC.out, hdt.out, if_pos rfl, if_neg hs])
      go_wp2_with fail
      refine (rform_all 100000 (Nat.le_refl _) t rb n x w2 HN.out hn (lst_ext HL.out HE2.out)).mono ?_
      rintro e w3 ⟨rfl, hE3⟩
      have HE3 := Lib.hid (ext_trans HE2.out hE3)
      clear hE3
      cases hf : formB t with
      | true =>
        have hc := Lib.hid (show chk t = 0 by rw [hc0.out, hf]; rfl)
        clear hf
        go_wp2
        refine bodyPost_ret (results_tmp rfl _ _ _) rfl ?_
        exact ⟨by rw [hc.out]; rfl, HE3.out⟩
      | false =>
        have hc := Lib.hid (show chk t = 1 by rw [hc0.out, hf]; rfl)
        clear hf
        go_wp2
        refine bodyPost_ret (results_tmp rfl _ _ _) rfl ?_
        exact ⟨by rw [hc.out]; rfl, HE3.out⟩
end Go.Proofs.Ytiabmdboacpmcaa
/- Plain law: the words of a path as the document parts them; a path turned. -/
namespace Go.Proofs.Ytiabmdboacpmcaa
open Go Go.RowKit Go.Sort

theorem starL_one {A : List Sy → Prop} {u : List Sy} (h : A u) : StarL A u := by
  have := StarL.cons h (StarL.nil (A := A))
  rwa [List.append_nil] at this
theorem starL_add {A : List Sy → Prop} {u v : List Sy} (h : StarL A u) (k : StarL A v) : StarL A (u ++ v) := by
  induction h with
  | nil => exact k
  | cons ha _ ih => rw [List.append_assoc]; exact .cons ha ih
theorem starL_mono {A B : List Sy → Prop} (hAB : ∀ w, A w → B w) {u : List Sy} (h : StarL A u) : StarL B u := by
  induction h with
  | nil => exact .nil
  | cons ha _ ih => exact .cons (hAB _ ha) ih
theorem starL_first {A : List Sy → Prop} {w : List Sy} (h : StarL A w) : w ≠ [] → ∃ u v, w = u ++ v ∧ u ≠ [] ∧ A u ∧ StarL A v := by
  induction h with
  | nil => intro h; exact absurd rfl h
  | @cons u v ha hv ih =>
    intro hne
    by_cases hu : u = []
    · subst hu
      rw [List.nil_append] at hne
      obtain ⟨u', v', h1, h2, h3, h4⟩ := ih hne
      exact ⟨u', v', by rw [List.nil_append]; exact h1, h2, h3, h4⟩
    · exact ⟨u, v, rfl, hu, ha, hv⟩
theorem starL_cut {A : List Sy → Prop} {w : List Sy} (hw : w ≠ []) : StarL A w ↔ ∃ k, 1 ≤ k ∧ k ≤ w.length ∧ A (w.take k) ∧ (k = w.length ∨ StarL A (w.drop k)) := by
  constructor
  · intro h
    obtain ⟨u, v, rfl, hu, ha, hv⟩ := starL_first h hw
    have := List.length_pos_iff.2 hu
    refine ⟨u.length, by omega, by rw [List.length_append]; omega, by rw [List.take_left]; exact ha, .inr (by rw [List.drop_left]; exact hv)⟩
  · rintro ⟨k, _, hk, ha, hv⟩
    rw [← List.take_append_drop k w]
    refine .cons ha ?_
    rcases hv with h | h
    · rw [h, List.drop_length]; exact .nil
    · exact h
theorem plusL_cut {A : List Sy → Prop} {w : List Sy} (hw : w ≠ []) : (∃ u v, w = u ++ v ∧ A u ∧ StarL A v) ↔ ∃ k, 1 ≤ k ∧ k ≤ w.length ∧ A (w.take k) ∧ (k = w.length ∨ ∃ u v, w.drop k = u ++ v ∧ A u ∧ StarL A v) := by
  constructor
  · rintro ⟨u, v, rfl, ha, hv⟩
    have hst : StarL A (u ++ v) := .cons ha hv
    obtain ⟨u', v', h1, hu, ha', hv'⟩ := starL_first hst hw
    have := List.length_pos_iff.2 hu
    rw [h1]
    refine ⟨u'.length, by omega, by rw [List.length_append]; omega, by rw [List.take_left]; exact ha', ?_⟩
    rw [List.drop_left, List.length_append]
    by_cases hv0 : v' = []
    · left; rw [hv0]; simp
    · right
      obtain ⟨a, b, h2, _, h3, h4⟩ := starL_first hv' hv0
      exact ⟨a, b, h2, h3, h4⟩
  · rintro ⟨k, _, hk, ha, hv⟩
    refine ⟨w.take k, w.drop k, (List.take_append_drop k w).symm, ha, ?_⟩
    rcases hv with h | ⟨u, v, h, h2, h3⟩
    · rw [h, List.drop_length]; exact .nil
    · rw [h]; exact .cons h2 h3
theorem wordsAlt_one (p : Tr) (w : List Sy) : WordsAlt [p] w ↔ Words p w := by simp [WordsAlt]
theorem wordsSeq_one (p : Tr) (w : List Sy) : WordsSeq [p] w ↔ Words p w := by
  simp only [WordsSeq]
  constructor
  · rintro ⟨u, v, rfl, h, rfl⟩; rwa [List.append_nil]
  · intro h; exact ⟨w, [], by simp, h, rfl⟩
theorem wordsSeq_cut (p : Tr) (r : List Tr) (w : List Sy) : WordsSeq (p :: r) w ↔ ∃ k, k ≤ w.length ∧ Words p (w.take k) ∧ WordsSeq r (w.drop k) := by
  rw [WordsSeq]
  constructor
  · rintro ⟨u, v, rfl, h, h2⟩
    exact ⟨u.length, by rw [List.length_append]; omega, by rw [List.take_left]; exact h, by rw [List.drop_left]; exact h2⟩
  · rintro ⟨k, _, h, h2⟩
    exact ⟨_, _, (List.take_append_drop k w).symm, h, h2⟩
theorem words_step (n : Int) (w : List Sy) : Words (.node 0 n []) w ↔ w = [(n, false)] := by simp [Words]
theorem words_back (n : Int) (w : List Sy) : Words (.node 1 n []) w ↔ w = [(n, true)] := by simp [Words]
theorem words_seq (n : Int) (ps : List Tr) (w : List Sy) : Words (.node 2 n ps) w ↔ WordsSeq ps w := by simp [Words]
theorem words_alt (n : Int) (ps : List Tr) (w : List Sy) : Words (.node 3 n ps) w ↔ WordsAlt ps w := by simp [Words]
theorem words_opt (n : Int) (p : Tr) (w : List Sy) : Words (.node 6 n [p]) w ↔ w = [] ∨ Words p w := by simp [Words, wordsAlt_one]
theorem alt1 (p : Tr) : WordsAlt [p] = Words p := funext fun w => propext (wordsAlt_one p w)
theorem words_star0 (n : Int) (p : Tr) (w : List Sy) : Words (.node 4 n [p]) w ↔ StarL (Words p) w := by simp [Words, alt1]
theorem words_plus0 (n : Int) (p : Tr) (w : List Sy) : Words (.node 5 n [p]) w ↔ ∃ u v, w = u ++ v ∧ Words p u ∧ StarL (Words p) v := by simp [Words, alt1]
theorem words_star_nil (n : Int) (p : Tr) : Words (.node 4 n [p]) [] := (words_star0 n p _).2 .nil
theorem words_plus_nil (n : Int) (p : Tr) : Words (.node 5 n [p]) [] ↔ Words p [] := by
  rw [words_plus0]
  constructor
  · rintro ⟨u, v, h, h2, -⟩
    obtain ⟨rfl, rfl⟩ := List.append_eq_nil_iff.1 h.symm
    exact h2
  · intro h; exact ⟨[], [], rfl, h, .nil⟩
theorem words_star (n : Int) (p : Tr) {w : List Sy} (hw : w ≠ []) : Words (.node 4 n [p]) w ↔ ∃ k, 1 ≤ k ∧ k ≤ w.length ∧ Words p (w.take k) ∧ (k = w.length ∨ Words (.node 4 n [p]) (w.drop k)) := by
  simp only [words_star0]
  exact starL_cut hw
theorem words_plus (n : Int) (p : Tr) {w : List Sy} (hw : w ≠ []) : Words (.node 5 n [p]) w ↔ ∃ k, 1 ≤ k ∧ k ≤ w.length ∧ Words p (w.take k) ∧ (k = w.length ∨ Words (.node 5 n [p]) (w.drop k)) := by
  simp only [words_plus0]
  exact plusL_cut hw
/-- words of parts, any of which may do -/
theorem wordsAlt_iff (ps : List Tr) (w : List Sy) : WordsAlt ps w ↔ ∃ p ∈ ps, Words p w := by
  induction ps with
  | nil => simp [WordsAlt]
  | cons p r ih => rw [WordsAlt, ih]; simp

/- A path turned. -/
mutual
def turnT : Tr → Tr
  | .node k n ps => .node (if k = 0 then 1 else if k = 1 then 0 else k) n (if k = 2 then (turnL ps).reverse else turnL ps)
def turnL : List Tr → List Tr
  | [] => []
  | p :: r => turnT p :: turnL r
end
theorem turnL_map : ∀ ps : List Tr, turnL ps = ps.map turnT
  | [] => rfl
  | p :: r => by rw [turnL, turnL_map r]; rfl
mutual
theorem turn_turn : ∀ t : Tr, turnT (turnT t) = t
  | .node k n ps => by
    rw [turnT, turnT]
    by_cases h0 : k = 0
    · subst h0; simp [turnL_turnL ps]
    by_cases h1 : k = 1
    · subst h1; simp [turnL_turnL ps]
    by_cases h2 : k = 2
    · subst h2
      simp [turnL_map]
      have := turnL_turnL ps
      simpa [turnL_map] using this
    · simp [h0, h1, h2, turnL_turnL ps]
theorem turnL_turnL : ∀ ps : List Tr, turnL (turnL ps) = ps
  | [] => rfl
  | p :: r => by rw [turnL, turnL, turn_turn p, turnL_turnL r]
end
def flipS (s : Sy) : Sy := (s.1, !s.2)
def flipW (w : List Sy) : List Sy := (w.map flipS).reverse
theorem flip_flip (w : List Sy) : flipW (flipW w) = w := by
  unfold flipW
  rw [List.map_reverse, List.reverse_reverse, List.map_map]
  conv => rhs; rw [← List.map_id w]
  congr 1
  funext s
  simp [flipS]
theorem flip_app (u v : List Sy) : flipW (u ++ v) = flipW v ++ flipW u := by simp [flipW]
theorem seq_app {a b : List Tr} {u v : List Sy} (h : WordsSeq a u) (k : WordsSeq b v) : WordsSeq (a ++ b) (u ++ v) := by
  induction a generalizing u with
  | nil => rw [WordsSeq] at h; subst h; exact k
  | cons p r ih =>
    rw [WordsSeq] at h
    obtain ⟨x, y, rfl, h1, h2⟩ := h
    rw [List.cons_append, WordsSeq]
    exact ⟨x, y ++ v, by rw [List.append_assoc], h1, ih h2⟩
theorem star_flip {A B : List Sy → Prop} (hAB : ∀ w, A w → B (flipW w)) {w : List Sy} (h : StarL A w) : StarL B (flipW w) := by
  induction h with
  | nil => exact .nil
  | cons ha _ ih => rw [flip_app]; exact starL_add ih (starL_one (hAB _ ha))
mutual
theorem turn_to : ∀ (t : Tr) (w : List Sy), Words t w → Words (turnT t) (flipW w)
  | .node k n ps, w, h => by
    rw [turnT, Words]
    rw [Words] at h
    by_cases h0 : k = 0
    · subst h0; simp at h ⊢; subst h; rfl
    by_cases h1 : k = 1
    · subst h1; simp at h ⊢; subst h; rfl
    by_cases h2 : k = 2
    · subst h2; simp at h ⊢; exact turnS_to ps w h
    by_cases h3 : k = 3
    · subst h3; simp at h ⊢; exact turnA_to ps w h
    by_cases h4 : k = 4
    · subst h4; simp at h ⊢; exact star_flip (turnA_to ps) h
    by_cases h5 : k = 5
    · subst h5
      simp at h ⊢
      obtain ⟨u, v, rfl, ha, hs⟩ := h
      rw [flip_app]
      have h6 := star_flip (turnA_to ps) hs
      have h7 := turnA_to ps u ha
      by_cases hv : flipW v = []
      · rw [hv, List.nil_append]; exact ⟨_, [], (List.append_nil _).symm, h7, .nil⟩
      · obtain ⟨x, y, h8, _, h9, h10⟩ := starL_first h6 hv
        rw [h8]
        exact ⟨x, y ++ flipW u, by rw [List.append_assoc], h9, starL_add h10 (starL_one h7)⟩
    · simp only [h0, h1, h2, h3, h4, h5, if_false] at h ⊢
      rcases h with h | h
      · left; rw [h]; rfl
      · right; exact turnA_to ps w h
theorem turnS_to : ∀ (ps : List Tr) (w : List Sy), WordsSeq ps w → WordsSeq (turnL ps).reverse (flipW w)
  | [], w, h => by rw [WordsSeq] at h; subst h; simp [turnL, WordsSeq, flipW]
  | p :: r, w, h => by
    rw [WordsSeq] at h
    obtain ⟨u, v, rfl, h1, h2⟩ := h
    rw [flip_app, turnL, List.reverse_cons]
    exact seq_app (turnS_to r v h2) ((wordsSeq_one _ _).2 (turn_to p u h1))
theorem turnA_to : ∀ (ps : List Tr) (w : List Sy), WordsAlt ps w → WordsAlt (turnL ps) (flipW w)
  | [], w, h => by rw [WordsAlt] at h; exact h.elim
  | p :: r, w, h => by
    rw [WordsAlt] at h
    rw [turnL, WordsAlt]
    rcases h with h | h
    · exact .inl (turn_to p w h)
    · exact .inr (turnA_to r w h)
end
theorem turn_words (t : Tr) (w : List Sy) : Words (turnT t) (flipW w) ↔ Words t w := by
  constructor
  · intro h
    have := turn_to _ _ h
    rwa [turn_turn, flip_flip] at this
  · exact turn_to t w
theorem sizeL_rev : ∀ ps : List Tr, sizeL ps.reverse = sizeL ps
  | [] => rfl
  | p :: r => by
    rw [List.reverse_cons]
    have : ∀ a : List Tr, sizeL (a ++ [p]) = sizeL a + sizeT p := fun a => by
      induction a with
      | nil => simp [sizeL]
      | cons x r ih => rw [List.cons_append, sizeL, sizeL, ih]; omega
    rw [this, sizeL_rev r, sizeL]; omega
theorem depthL_rev : ∀ ps : List Tr, depthL ps.reverse = depthL ps
  | [] => rfl
  | p :: r => by
    rw [List.reverse_cons]
    have : ∀ a : List Tr, depthL (a ++ [p]) = max (depthL a) (depthT p) := fun a => by
      induction a with
      | nil => simp [depthL]
      | cons x r ih => rw [List.cons_append, depthL, depthL, ih]; omega
    rw [this, depthL_rev r, depthL]; omega
theorem formL_rev : ∀ ps : List Tr, formL ps.reverse = formL ps
  | [] => rfl
  | p :: r => by
    rw [List.reverse_cons]
    have : ∀ a : List Tr, formL (a ++ [p]) = (formL a && formB p) := fun a => by
      induction a with
      | nil => simp [formL]
      | cons x r ih => rw [List.cons_append, formL, formL, ih, Bool.and_assoc]
    rw [this, formL_rev r, formL, Bool.and_comm]
theorem turnL_length (ps : List Tr) : (turnL ps).length = ps.length := by rw [turnL_map, List.length_map]
mutual
theorem turn_size : ∀ t : Tr, sizeT (turnT t) = sizeT t
  | .node k n ps => by
    rw [turnT, sizeT, sizeT]
    split
    · rw [sizeL_rev, turnL_size ps]
    · rw [turnL_size ps]
theorem turnL_size : ∀ ps : List Tr, sizeL (turnL ps) = sizeL ps
  | [] => rfl
  | p :: r => by rw [turnL, sizeL, sizeL, turn_size p, turnL_size r]
end
mutual
theorem turn_depth : ∀ t : Tr, depthT (turnT t) = depthT t
  | .node k n ps => by
    rw [turnT, depthT, depthT]
    split
    · rw [depthL_rev, turnL_depth ps]
    · rw [turnL_depth ps]
theorem turnL_depth : ∀ ps : List Tr, depthL (turnL ps) = depthL ps
  | [] => rfl
  | p :: r => by rw [turnL, depthL, depthL, turn_depth p, turnL_depth r]
end
theorem turnL_nil (ps : List Tr) : turnL ps = [] ↔ ps = [] := by
  cases ps <;> simp [turnL]
mutual
theorem turn_form : ∀ t : Tr, formB (turnT t) = formB t
  | .node k n ps => by
    have hL := turnL_form ps
    have hN := turnL_length ps
    have hE := turnL_nil ps
    rw [turnT, formB, formB]
    by_cases h0 : k = 0
    · subst h0; simp [hE]
    by_cases h1 : k = 1
    · subst h1; simp [hE]
    by_cases h2 : k = 2
    · subst h2; simp [hE, formL_rev, hL]
    · simp [h0, h1, h2, hE, hL, hN]
theorem turnL_form : ∀ ps : List Tr, formL (turnL ps) = formL ps
  | [] => rfl
  | p :: r => by rw [turnL, formL, formL, turn_form p, turnL_form r]
end
theorem turn_chk (t : Tr) : chk (turnT t) = chk t := by
  unfold chk
  rw [show (40 : Int) = ((40 : Nat) : Int) from rfl, deep_depth, deep_depth, turn_size, turn_depth, turn_form]
/- does a path take no symbols? -/
mutual
def emptyT : Tr → Bool
  | .node k _ ps => if k = 4 ∨ k = 6 then true else if k = 3 ∨ k = 5 then emptyA ps else if k = 2 then emptyS ps else false
def emptyA : List Tr → Bool
  | [] => false
  | p :: r => emptyT p || emptyA r
def emptyS : List Tr → Bool
  | [] => true
  | p :: r => emptyT p && emptyS r
end
mutual
theorem empty_words : ∀ t : Tr, Form t → (emptyT t = true ↔ Words t [])
  | .node k n ps, hF => by
    rw [Form] at hF
    rw [emptyT]
    rcases hF with ⟨hk, rfl, _⟩ | ⟨hk, hne, hf⟩ | ⟨hk, ⟨p, rfl⟩, hf⟩
    · rcases hk with rfl | rfl <;> simp [Words]
    · rcases hk with rfl | rfl
      · simp [words_seq, emptyS_words ps hf]
      · simp [words_alt, emptyA_words ps hf]
    · have h1 := emptyA_words [p] hf
      rw [wordsAlt_one] at h1
      rcases hk with rfl | rfl | rfl
      · simp [words_star_nil]
      · simp [words_plus_nil, h1]
      · simp [words_opt]
theorem emptyA_words : ∀ ps : List Tr, FormL ps → (emptyA ps = true ↔ WordsAlt ps [])
  | [], _ => by simp [emptyA, WordsAlt]
  | p :: r, hF => by
    rw [FormL] at hF
    rw [emptyA, WordsAlt, Bool.or_eq_true, empty_words p hF.1, emptyA_words r hF.2]
theorem emptyS_words : ∀ ps : List Tr, FormL ps → (emptyS ps = true ↔ WordsSeq ps [])
  | [], _ => by simp [emptyS, WordsSeq]
  | p :: r, hF => by
    rw [FormL] at hF
    rw [emptyS, wordsSeq_cut, Bool.and_eq_true, empty_words p hF.1, emptyS_words r hF.2]
    simp
end
end Go.Proofs.Ytiabmdboacpmcaa
/- Plain law: nodes that have been fixed, and their trees. -/
namespace Go.Proofs.Ytiabmdboacpmcaa
open Go Go.RowKit Go.Sort

/-- a node at a place of n fixed ones -/
def FixNd (n i : Nat) (x : Nd) : Prop := 0 ≤ x.1 ∧ x.1 ≤ 6 ∧ 0 ≤ x.2.1 ∧ x.2.1 ≤ 3 ∧ (x.1 < 2 → x.2.2 = []) ∧ (1 < x.1 → x.2.2 ≠ []) ∧ (3 < x.1 → x.2.2.length = 1) ∧ x.2.2.length ≤ 2 ∧ ∀ d ∈ x.2.2, d < 8 ∧ i + 1 + d < n
def Fixed (L : List Nd) : Prop := ∀ (i : Nat) (x : Nd), L[i]? = some x → FixNd L.length i x
theorem fixed_tail {x : Nd} {r : List Nd} (h : Fixed (x :: r)) : Fixed r := by
  intro i y hy
  obtain ⟨h1, h2, h3, h4, h5, h6, h7, h8, h9⟩ := h (i + 1) y (by simpa using hy)
  exact ⟨h1, h2, h3, h4, h5, h6, h7, h8, fun d hd => by have := h9 d hd; rw [List.length_cons] at this; omega⟩
theorem fixed_nodes {L : List Nd} (h : Fixed L) : Fixed (nodesOf L) := by
  unfold nodesOf
  split
  · intro i x hx
    cases i with
    | zero => simp at hx; subst hx; simp [FixNd]
    | succ i => simp at hx
  · exact h
theorem nodesOf_length (L : List Nd) : (nodesOf L).length = max L.length 1 := by
  unfold nodesOf
  split
  · rename_i h; subst h; rfl
  · rename_i h; have := List.length_pos_iff.2 h; omega
def Fit (m : Nat) (t : Tr) : Prop := formB t = true ∧ sizeT t < 2 ^ m ∧ depthT t ≤ m
theorem fit_mono {m m' : Nat} {t : Tr} (h : Fit m t) (hm : m ≤ m') : Fit m' t := ⟨h.1, Nat.lt_of_lt_of_le h.2.1 (Nat.pow_le_pow_right (by decide) hm), Nat.le_trans h.2.2 hm⟩
theorem fixed_trs : ∀ (L : List Nd), L.length ≤ 8 → Fixed L → ∀ t ∈ trs L, Fit L.length t
  | [], _, _, t, ht => by cases ht
  | x :: r, hl, hF, t, ht => by
    have hr := fixed_trs r (by rw [List.length_cons] at hl; omega) (fixed_tail hF)
    rw [trs] at ht
    rcases List.mem_cons.1 ht with rfl | ht
    · obtain ⟨h1, h2, h3, h4, h5, h6, h7, h8, h9⟩ := hF 0 x rfl
      obtain ⟨k, n, ds⟩ := x
      simp only at *
      rw [List.length_cons] at hl h9
      have hpw : 2 ^ r.length ≤ 128 := Nat.le_trans (Nat.pow_le_pow_right (by decide) (show r.length ≤ 7 by omega)) (by decide)
      have hps : 2 ^ (r.length + 1) = 2 ^ r.length + 2 ^ r.length := by rw [Nat.pow_succ]; omega
      have hget : ∀ d ∈ ds, ∃ q, (trs r)[d % 8]? = some q ∧ Fit r.length q := by
        intro d hd
        have := h9 d hd
        have hd8 : d % 8 = d := Nat.mod_eq_of_lt this.1
        rw [hd8]
        have hlt : d < (trs r).length := by rw [trs_length]; omega
        exact ⟨_, List.getElem?_eq_getElem hlt, hr _ (List.getElem_mem hlt)⟩
      have hp1 := Nat.one_le_two_pow (n := r.length)
      unfold Fit
      rw [List.length_cons]
      match ds, h5, h6, h7, h8, hget with
      | [], h5, h6, h7, h8, hget =>
        have hk : k = 0 ∨ k = 1 := by
          rcases Int.lt_or_le 1 k with h | h
          · exact absurd rfl (h6 h)
          · omega
        simp only [treeOf, picks, List.filterMap_nil, formB, sizeT, depthT, sizeL, depthL]
        refine ⟨by rw [if_pos hk]; simp; exact h3, by omega, by omega⟩
      | [d], h5, h6, h7, h8, hget =>
        obtain ⟨q, hq, hq1, hq2, hq3⟩ := hget d (List.mem_singleton.2 rfl)
        have hk : ¬ k < 2 := fun h => by have := h5 h; cases this
        simp only [treeOf, picks, hq]
        rw [if_neg (by omega), List.filterMap_cons_some hq]
        simp only [List.filterMap_nil, formB, sizeT, depthT, sizeL, depthL, formL, hq1, List.length_singleton]
        refine ⟨?_, by omega, by omega⟩
        by_cases hk2 : k = 2 ∨ k = 3
        · rw [if_neg (by omega), if_pos hk2]; rfl
        · rw [if_neg (by omega), if_neg hk2, if_pos (by omega)]; rfl
      | [d, e], h5, h6, h7, h8, hget =>
        obtain ⟨q, hq, hq1, hq2, hq3⟩ := hget d (List.mem_cons_self ..)
        obtain ⟨s, hs, hs1, hs2, hs3⟩ := hget e (List.mem_cons_of_mem _ (List.mem_singleton.2 rfl))
        have hk : ¬ k < 2 := fun h => by have := h5 h; cases this
        have hk3 : ¬ 3 < k := fun h => by have := h7 h; simp at this
        simp only [treeOf, picks, hq, hs]
        rw [if_neg (by omega), if_neg (by omega), List.filterMap_cons_some hq, List.filterMap_cons_some hs]
        simp only [List.filterMap_nil, formB, sizeT, depthT, sizeL, depthL, formL, hq1, hs1]
        refine ⟨?_, by omega, by omega⟩
        rw [if_neg (by omega), if_pos (by omega)]; rfl
    · exact fit_mono (hr t ht) (by rw [List.length_cons]; omega)
theorem fit_chk {m : Nat} {t : Tr} (h : Fit m t) (hm : m ≤ 8) : formB t = true ∧ (chk t = 0 ∨ chk t = 13) ∧ (m ≤ 7 → chk t = 0) := by
  obtain ⟨h1, h2, h3⟩ := h
  have hd : deepB t 40 = true := by
    rw [show (40 : Int) = ((40 : Nat) : Int) from rfl, deep_depth, decide_eq_true_eq]; omega
  have hc : chk t = if 200 < sizeT t then 13 else 0 := by
    unfold chk
    rw [hd, h1]
    rfl
  refine ⟨h1, by rw [hc]; split <;> simp, fun h7 => ?_⟩
  have : 2 ^ m ≤ 128 := Nat.le_trans (Nat.pow_le_pow_right (by decide) h7) (by decide)
  rw [hc, if_neg (by omega)]
theorem fit_form {m : Nat} {t : Tr} (h : Fit m t) : Form t := formB_iff t h.1
end Go.Proofs.Ytiabmdboacpmcaa
/- Fix: the walk. -/
namespace Go.Proofs.Ytiabmdboacpmcaa
open Go Go.RowKit Go.Sort
set_option maxHeartbeats 2000000

def elU : El Nat := ⟨fun a => [.int .u8 (a : Int)], 1, 5, by decide, fun _ => rfl, fun x u hu => by rw [List.mem_singleton.1 hu]; rfl⟩
noncomputable def tpU : Tp Try.prog 24 elU := ⟨(Try.prog.info? 5).get (by kernel_rfl), .int .u8 0, 1, Try.underlying24, by kernel_rfl, by kernel_rfl, by kernel_rfl, by kernel_rfl, rfl, by decide⟩
def elD : El PaV := ⟨fun x => [.int .i64 x.1, .int .i64 x.2.1, slv x.2.2], 3, 26, by decide, fun _ => rfl, fun x u hu => by
  simp only [List.mem_cons, List.not_mem_nil, or_false] at hu; rcases hu with rfl | rfl | rfl <;> rfl⟩
noncomputable def tpD : Tp Try.prog 22 elD := ⟨(Try.prog.info? 26).get (by kernel_rfl), .agg #[.int .i64 0, .int .i64 0, .slice none 0 0], 40, Try.underlying22, by kernel_rfl, by kernel_rfl, by kernel_rfl, by kernel_rfl, rfl, by decide⟩

theorem rowU_rd {w : World} {v : Value} {L : List Nat} (h : rowE elU w v L) (hb : ∀ d ∈ L, d < 256) : RdB w v L := by
  obtain ⟨A, c, rfl⟩ := rowE_form h
  refine ⟨A, c, rfl, (rowE_cap h).2, hb, fun hne => ?_⟩
  obtain ⟨g, rfl, hg⟩ := rowE_some h hne
  refine ⟨g, 0, rfl, hg, fun i x hx => ?_⟩
  have := rowE_cell h hx (j := 0) (u := .int .u8 (x : Int)) rfl
  simpa [elU] using this
/-- nodes in a row of one's own -/
def DRow (w : World) (H : Nat) (L : List Nd) (v : Value) : Prop := ∃ xv : List PaV, xv.length = L.length ∧ rowF elD H xv v w ∧ ∀ (m : Nat) (x : Nd) (y : PaV), L[m]? = some x → xv[m]? = some y → y.1 = x.1 ∧ y.2.1 = x.2.1 ∧ rowF elU H x.2.2 (slv y.2.2) w
theorem drow_nil (w : World) (H : Nat) : DRow w H [] (.slice none 0 0) := ⟨[], rfl, rowF_nil _ _, fun m x y hx => by simp at hx⟩
theorem drow_ext {w w' : World} {H : Nat} {L : List Nd} {v : Value} (h : DRow w H L v) (hE : Ext w w') : DRow w' H L v := by
  obtain ⟨xv, h1, h2, h3⟩ := h
  refine ⟨xv, h1, rowF_ext _ _ _ hE h2, fun m x y hx hy => ?_⟩
  obtain ⟨k1, k2, k3⟩ := h3 m x y hx hy
  exact ⟨k1, k2, rowF_ext _ _ _ hE k3⟩
theorem drow_add {w : World} {H : Nat} {L : List Nd} {v xs : Value} {x : Nd} {y : PaV} (h : DRow w H L v) (hx : SrcOf elD w xs [y]) (h1 : y.1 = x.1) (h2 : y.2.1 = x.2.1) (h3 : rowF elU H x.2.2 (slv y.2.2) w) (hl : L.length ≤ 1000) (hH : H ≤ w.heap.size) (ty : TypeId) :
    ∃ v' w', (Builtin.append_ #[22, 22] ty #[v, xs]).run Try.prog w = .ok v' w' ∧ (DRow w' H (L ++ [x]) v' ∧ w.grownBy w' v.ownBlock) := by
  obtain ⟨xv, k1, k2, k3⟩ := h
  obtain ⟨v', w', r1, r2, r3⟩ := append_onto tpD ty H v xs xv [y] w k2 hx (by rw [k1]; simp; omega) hH
  refine ⟨v', w', r1, ⟨⟨xv ++ [y], by simp [k1], r2, fun m x' y' hx' hy' => ?_⟩, r3⟩⟩
  have up : ∀ {l : List Nat} {s : SlV}, rowF elU H l (slv s) w → rowF elU H l (slv s) w' := fun hr => rowF_upd hr (upd_grown r3) (fun b hb e => el_apart hr.1 k2.1 (by decide) hb e)
  by_cases hm : m < L.length
  · rw [List.getElem?_append_left hm] at hx'
    rw [List.getElem?_append_left (by omega)] at hy'
    obtain ⟨j1, j2, j3⟩ := k3 m x' y' hx' hy'
    exact ⟨j1, j2, up j3⟩
  · rw [List.getElem?_append_right (by omega)] at hx'
    rw [List.getElem?_append_right (by omega)] at hy'
    have hm0 : m - L.length = 0 := by
      have := (List.getElem?_eq_some_iff.1 hx').1
      simp at this
      omega
    rw [hm0] at hx'
    rw [k1, hm0] at hy'
    simp only [List.getElem?_cons_zero, Option.some.injEq] at hx' hy'
    subst hx' hy'
    exact ⟨h1, h2, up h3⟩
theorem drow_rd {w : World} {H n : Nat} {L : List Nd} {v : Value} (h : DRow w H L v) (hL : ∀ (m : Nat) (x : Nd), L[m]? = some x → FixNd n m x) : RdNd w v L := by
  obtain ⟨xv, h1, h2, h3⟩ := h
  obtain ⟨A, c, rfl⟩ := rowE_form h2.1
  rw [h1]
  refine ⟨A, c, rfl, by have := (rowE_cap h2.1).2; omega, fun x hx => ?_, fun hne => ?_⟩
  · obtain ⟨m, hm⟩ := List.mem_iff_getElem?.1 hx
    obtain ⟨q1, q2, q3, q4, q5, q6, q7, q8, q9⟩ := hL m x hm
    exact ⟨⟨by omega, by omega⟩, ⟨by omega, by omega⟩, by unfold maxLen; omega⟩
  · obtain ⟨g, rfl, hg⟩ := rowE_some h2.1 (fun e => by rw [e] at h1; simp at h1; exact hne (List.length_eq_zero_iff.1 h1.symm))
    refine ⟨g, 0, rfl, hg, fun i x hx => ?_⟩
    have hi := (List.getElem?_eq_some_iff.1 hx).1
    obtain ⟨y, hy⟩ : ∃ y, xv[i]? = some y := ⟨_, List.getElem?_eq_getElem (by omega)⟩
    obtain ⟨j1, j2, j3⟩ := h3 i x y hx hy
    obtain ⟨q1, q2, q3, q4, q5, q6, q7, q8, q9⟩ := hL i x hx
    have c0 := rowE_cell h2.1 hy (j := 0) (u := .int .i64 y.1) rfl
    have c1 := rowE_cell h2.1 hy (j := 1) (u := .int .i64 y.2.1) rfl
    have c2 := rowE_cell h2.1 hy (j := 2) (u := slv y.2.2) rfl
    rw [j1] at c0
    rw [j2] at c1
    rw [Nat.zero_add]
    exact ⟨c0, c1, _, c2, rowU_rd j3.1 (fun d hd => by have := q9 d hd; omega)⟩

theorem drow_form {w : World} {H : Nat} {L : List Nd} {v : Value} (h : DRow w H L v) : ∃ A c, v = .slice A L.length c := by
  obtain ⟨xv, h1, h2, -⟩ := h
  obtain ⟨A, c, rfl⟩ := rowE_form h2.1
  exact ⟨A, c, by rw [h1]⟩
theorem drow_own {w : World} {H : Nat} {L : List Nd} {v : Value} (h : DRow w H L v) : ∀ b, v.ownBlock = some b → H ≤ b := by
  obtain ⟨xv, h1, h2, -⟩ := h
  exact h2.2
theorem umod (a m : Int) (hm : 0 < m) (hm8 : m ≤ 8) : 0 ≤ wrap64 ((IntKind.u64.wrap a).tmod m) ∧ wrap64 ((IntKind.u64.wrap a).tmod m) < m := by
  have h0 : 0 ≤ IntKind.u64.wrap a := by unfold IntKind.wrap; simp [IntKind.bits, IntKind.signed]; omega
  rw [Int.tmod_eq_emod_of_nonneg h0]
  have h1 := Int.emod_nonneg (IntKind.u64.wrap a) (show m ≠ 0 by omega)
  have h2 := Int.emod_lt_of_pos (IntKind.u64.wrap a) hm
  unfold wrap64
  omega
theorem fixNd_make {n i : Nat} {k m : Int} {es : List Nat} (hk : 0 ≤ k ∧ k < 7) (hm : 0 ≤ m ∧ m < 4) (h2 : k < 2 → es.length = 0) (h3 : 3 < k → es.length ≤ 1) (hl : es.length ≤ 2) (he : es = [] → k < 2) (hd : ∀ d ∈ es, d < 8 ∧ i + 1 + d < n) : FixNd n i (k, m, es) :=
  ⟨hk.1, by simp only; omega, hm.1, by simp only; omega, fun h => List.length_eq_zero_iff.1 (h2 h), fun h => fun e => by have := he e; simp only at h; omega, fun h => by
    have h4 := h3 h
    have h5 : es.length ≠ 0 := fun e => by have := he (List.length_eq_zero_iff.1 e); simp only at h; omega
    simp only
    omega, hl, hd⟩
theorem u8mod {y l : Nat} (hy : y < 256) (_hl : 0 < l) : IntKind.u8.wrap ((y : Int).tmod (l : Int)) = ((y % l : Nat) : Int) := by
  rw [Int.tmod_eq_emod_of_nonneg (by omega)]
  have h1 : (y : Int) % (l : Int) = ((y % l : Nat) : Int) := by omega
  have h2 : y % l ≤ y := Nat.mod_le _ _
  rw [h1]
  unfold IntKind.wrap
  simp [IntKind.bits, IntKind.signed]
  omega

theorem ext_updL {fp : Nat → Prop} {W w w' : World} (h : Ext W w) (hu : Upd fp w w') (hf : ∀ b, fp b → W.heap.size ≤ b) : Ext W w' :=
  ext_of_upd ⟨hu.os.trans (Below.os h), hu.tape.trans (Below.tape h), hu.output.trans (Below.output h), Nat.le_trans (ext_size h) hu.size, fun k hk _ => (hu.block k (Nat.lt_of_lt_of_le hk (ext_size h)) (fun hfk => absurd (hf k hfk) (by omega))).trans (ext_block h hk)⟩
theorem fix_out {w W1 wb : World} {py i cO j c : Nat} {L' : List Nd} {O P : Option Addr} {kf m : Int} {es : List Nat} (hD : DRow W1 w.heap.size L' (.slice O i cO)) (hE : Ext w W1) (hEb : Ext W1 wb) (hz : W1.heap.size = py) (hr : rowF elU (py + 1) es (.slice P j c) wb) (hi : L'.length = i) (hl : i ≤ 1000) (ty : TypeId) {q : Nat} (hq : wb.heap.size = q) :
    ∃ v' w', (Builtin.append_ #[22, 22] ty #[.slice O i cO, .slice (some ⟨q, 0, none⟩) 1 1]).run Try.prog (wb.alloc (.cells #[.int .i64 kf, .int .i64 m, .slice P j c] 26)) = .ok v' w' ∧ (∃ O' c', v' = .slice O' (i + 1) c' ∧ DRow w' w.heap.size (L' ++ [(kf, m, es)]) (.slice O' (i + 1) c') ∧ Ext w w') := by
  subst hq
  have hsz := ext_size hE
  have hsb := ext_size hEb
  have hEa := ext_alloc hEb (.cells #[.int .i64 kf, .int .i64 m, .slice P j c] 26)
  have h3 := rowF_ext _ _ _ (ext_alloc (ext_refl wb) (.cells #[.int .i64 kf, .int .i64 m, .slice P j c] 26)) hr
  obtain ⟨v', w', h4, h5, h6⟩ := drow_add (x := (kf, m, es)) (y := (kf, m, (P, j, c))) (drow_ext hD hEa) (srcOf_one (H := 0) ⟨wb.heap.size, rfl, Nat.zero_le _, heap_alloc_new _ _⟩) rfl rfl (rowF_low h3 (by omega)) (by omega) (by rw [World.size_alloc]; omega) ty
  obtain ⟨O', c', rfl⟩ := drow_form h5
  have hl' : (L' ++ [((kf, m, es) : Nd)]).length = i + 1 := by rw [List.length_append, hi]; rfl
  rw [hl'] at h4 h5
  exact ⟨_, w', h4, O', c', rfl, h5, ext_grown (ext_trans hE hEa) h6 (fun b hb => drow_own hD b hb) (Nat.le_refl _)⟩

def FixPost (w : World) (e : Ending) (w' : World) : Prop := ∃ (L' : List Nd) (v : Value), e = .returned v ∧ RdNd w' v L' ∧ Fixed L' ∧ L'.length ≤ 8 ∧ Ext w w'
set_option maxRecDepth 100000 in
theorem fix_any (v : Value) (L : List Nd) (w : World) (hv : RdNd w v L) : Calls Try.prog 25 #[v] w fun e w' => ∃ (L' : List Nd) (v : Value), e = .returned v ∧ RdNd w' v L' ∧ Fixed L' ∧ L'.length = min L.length 8 ∧ Ext w w' := by
  obtain ⟨A0, c0, rfl, hc0, hb0, hA⟩ := hv
  have HA := Lib.hid hA
  have HB0 := Lib.hid hb0
  clear hA hb0
  obtain ⟨n, hn⟩ : ∃ n, n = min L.length 8 := ⟨_, rfl⟩
  have HN := Lib.hid hn
  have hn0 : min (L.length : Int) 8 = (n : Int) := by omega
  have hn1 : n ≤ L.length := by omega
  have hn8 : n ≤ 8 := by omega
  have HN0 := Lib.hid hn0
  clear hn hn0
  go_enter Try.func25, Try.ntmps25
  go_wp2
  go_loopw [12, 3] (fun x y wr => ∃ (i : Nat) (L' : List Nd) (O : Option Addr) (cO : Nat), i ≤ L.length ∧ i ≤ 8 ∧ L'.length = i ∧ x = .int .i64 (i : Int) ∧ y = .slice O i cO ∧ DRow wr w.heap.size L' (.slice O i cO) ∧ (∀ (m : Nat) (x : Nd), L'[m]? = some x → FixNd n m x) ∧ Ext w wr) (fun x _ _ => L.length - (intOf x).toNat)
  case atStart => exact ⟨0, [], none, 0, Nat.zero_le _, by omega, rfl, rfl, rfl, drow_nil _ _, fun m x hx => by simp at hx, ext_refl _⟩
  case round =>
    rename World => wo
    obtain ⟨i, L', O, cO, hi, hi8, hl', rfl, rfl, hr, hx, hE⟩ := hrel
    have HL := Lib.hid hl'
    have HR := Lib.hid hr
    have HX := Lib.hid hx
    have HE := Lib.hid hE
    clear hl' hr hx hE
    by_cases hlt : i < L.length
    · obtain ⟨x0, hx0⟩ : ∃ x, L[i]? = some x := ⟨_, List.getElem?_eq_getElem hlt⟩
      obtain ⟨b9, off9, hA9, hb9, hc9⟩ := HA.out (fun e => by rw [e] at hx0; simp at hx0)
      subst hA9
      obtain ⟨z0, z1, s0, z2, z3⟩ := hc9 i x0 hx0
      obtain ⟨A1, c1, rfl, hcc1, hb1, hA1⟩ := z3
      obtain ⟨ok0, ok1, ok2⟩ := HB0.out x0 (List.mem_of_getElem? hx0)
      obtain ⟨a, b, ds⟩ := x0
      simp only at z0 z1 hcc1 hb1 hA1 ok0 ok1 ok2
      have q0 := (ext_cell HE.out _ _ hb9).trans z0
      have q1 := (ext_cell HE.out _ _ hb9).trans z1
      have q2 := (ext_cell HE.out _ _ hb9).trans z2
      have l9 := ext_lt HE.out hb9
      have HA1 := Lib.hid hA1
      have HB1 := Lib.hid hb1
      have HOK := Lib.hid ok0
      have HOK1 := Lib.hid ok1
      have hji : (i : Int) < (L.length : Int) := by omega
      have hj0 : (0 : Int) ≤ (i : Int) := by omega
      clear hc9 hx0 z0 z1 z2 hA1 hb1 ok0 ok1
      by_cases h8 : i = 8
      · subst h8
        go_wp2
        refine bodyPost_ret (results_tmp rfl _ _ _) rfl ?_
        exact ⟨L', _, rfl, drow_rd (drow_ext HR.out (ext_alloc (ext_refl _) _)) HX.out, by
          have : L'.length = n := by rw [HL.out, HN.out]; omega
          intro m x hm
          rw [this]
          exact HX.out m x hm, HL.out.trans (by omega), ext_alloc HE.out _⟩
      · have h8' : ((i : Int) == 8) = false := by rw [beq_eq_false_iff_ne]; omega
        go_wp2_with fail
        obtain ⟨lf, hlf⟩ : ∃ lf : Nat, lf = n - 1 - i := ⟨_, rfl⟩
        have hin : i < n := by have := HN.out; omega
        have hlf1 : min (L.length : Int) 8 - (i : Int) - 1 = (lf : Int) := by rw [HN0.out]; omega
        obtain ⟨k, hk⟩ : ∃ k, k = wrap64 ((IntKind.u64.wrap a).tmod 7) := ⟨_, rfl⟩
        obtain ⟨m, hm⟩ : ∃ m, m = wrap64 ((IntKind.u64.wrap b).tmod 4) := ⟨_, rfl⟩
        have hkr := umod a 7 (by decide) (by decide)
        have hmr := umod b 4 (by decide) (by decide)
        rw [← hk] at hkr ⊢
        rw [← hm] at hmr ⊢
        rw [hlf1]
        clear hk hm hlf1
        obtain ⟨W1, hW1⟩ : ∃ W1, W1 = wo.alloc (.cells #[.int .i64 a, .int .i64 b, .slice A1 ds.length c1] 26) := ⟨_, rfl⟩
        have hz1 : W1.heap.size = wo.heap.size + 1 := by rw [hW1]; simp
        have hx1 : W1.heap[wo.heap.size]? = some (.cells #[.int .i64 a, .int .i64 b, .slice A1 ds.length c1] 26 (0, 0)) := by rw [hW1]; exact heap_alloc_new _ _
        have hE1 : Ext wo W1 := by rw [hW1]; exact ext_alloc (ext_refl _) _
        rw [← hW1]
        obtain ⟨py, hpy⟩ : ∃ py, py = wo.heap.size + 1 := ⟨_, rfl⟩
        rw [← hpy] at hz1 ⊢
        have hy1 : (W1.alloc (.cells #[.int .i64 k, .int .i64 m, .slice none 0 0] 26)).heap[py]? = some (.cells #[.int .i64 k, .int .i64 m, .slice none 0 0] 26 (0, 0)) := by
          have := heap_alloc_new W1 (.cells #[.int .i64 k, .int .i64 m, .slice none 0 0] 26)
          rwa [hz1] at this
        have HE1 := Lib.hid hE1
        have HY1 := Lib.hid hy1
        have HZ1 := Lib.hid hz1
        have HR1 := Lib.hid (drow_ext HR.out hE1)
        have HO := Lib.hid (drow_own HR.out)
        have HPY := Lib.hid hpy
        have HLF := Lib.hid hlf
        have hpl : wo.heap.size < py := by omega
        clear hW1 hx1 hE1 hy1 q0 q1 q2 hz1 hpy hlf
        go_loopw [39] (fun x wr => ∃ (j : Nat) (es : List Nat) (P : Option Addr) (c : Nat), j ≤ ds.length ∧ j ≤ 2 ∧ es.length = j ∧ x = .int .i64 (j : Int) ∧ wr.heap[py]? = some (.cells #[.int .i64 k, .int .i64 m, .slice P j c] 26 (0, 0)) ∧ rowF elU (py + 1) es (.slice P j c) wr ∧ (∀ d ∈ es, d < 8 ∧ i + 1 + d < n) ∧ (k < 2 → j = 0) ∧ (3 < k → j ≤ 1) ∧ Ext W1 wr) (fun x _ => ds.length - (intOf x).toNat)
        case atStart => exact ⟨0, [], none, 0, Nat.zero_le _, by omega, rfl, rfl, HY1.out, rowF_nil _ _, by simp, fun _ => rfl, fun _ => by omega, ext_alloc (ext_refl _) _⟩
        case round =>
          rename World => wr
          obtain ⟨j, es, P, c, hjd, hj2, hel, rfl, hpc, hrp, hes, hk2, hk3, hEr⟩ := hrel
          have HPC := Lib.hid hpc
          have HRP := Lib.hid hrp
          have HES := Lib.hid hes
          have HEL := Lib.hid hel
          have HER := Lib.hid hEr
          have p0 : wr.cell? ⟨py, 0, none⟩ = some (.int .i64 k) := block_cell hpc 0
          have p1 : wr.cell? ⟨py, 1, none⟩ = some (.int .i64 m) := block_cell hpc 1
          have p2 : wr.cell? ⟨py, 2, none⟩ = some (.slice P j c) := block_cell hpc 2
          have fp0 := block_frozen hpc 0
          have fp2 := block_frozen hpc 2
          have lp := block_lt hpc
          clear hpc hrp hes hEr hel
          by_cases hjl : j < ds.length
          · have hjj : (j : Int) < (ds.length : Int) := by omega
            have hjj0 : (0 : Int) ≤ (j : Int) := by omega
            obtain ⟨y, hy⟩ : ∃ y, ds[j]? = some y := ⟨_, List.getElem?_eq_getElem hjl⟩
            obtain ⟨b8, off8, hA8, hb8, hc8⟩ := HA1.out (fun e => by rw [e] at hy; simp at hy)
            subst hA8
            have hy8 := HB1.out y (List.mem_of_getElem? hy)
            have z9 := (ext_cell (ext_trans HE.out (ext_trans HE1.out HER.out)) _ _ hb8).trans (hc8 j y hy)
            have l8 := ext_lt (ext_trans HE.out (ext_trans HE1.out HER.out)) hb8
            clear hc8 hy
            by_cases hlf0 : lf = 0
            · have d0 : ((lf : Int) == 0) = true := by rw [beq_iff_eq]; omega
              have HLF0 := Lib.hid hlf0
              clear hlf0
              by_cases he : j = 0
              · have e0 : es = [] := List.length_eq_zero_iff.1 (by rw [HEL.out]; exact he)
                have E0 := Lib.hid e0
                have dl : ((j : Int) == 0) = true := by rw [beq_iff_eq]; omega
                by_cases hk1 : 1 < k
                · have dg : decide (1 < k) = true := decide_eq_true hk1
                  have hes2 : Ext W1 (wr.setCell ⟨py, 0, none⟩ (.int .i64 (k % 2))) := ext_set HER.out (Nat.le_of_eq HZ1.out) _
                  have hrp2 : rowF elU (py + 1) es (.slice P j c) (wr.setCell ⟨py, 0, none⟩ (.int .i64 (k % 2))) := rowF_upd HRP.out (upd_setCell _) (fun b hb e => by have h8 := HRP.out.2 b hb; have h9 : b = py := e; omega)
                  have hq2 : (wr.setCell ⟨py, 0, none⟩ (.int .i64 (k % 2))).heap.size = wr.heap.size := by simp [World.setCell]
                  have HES2 := Lib.hid hes2
                  have HRP2 := Lib.hid hrp2
                  have HQ2 := Lib.hid hq2
                  have hkm : 0 ≤ k % 2 ∧ k % 2 < 2 := by omega
                  clear e0 he hes2 hrp2 hq2
                  go_wp2_with (at_builtin; refine halt_here ?_)
                  refine go_on ?_
                  refine wpList_append rfl (.tmp 89) (.tmp 91) rfl _ _ rfl rfl (fun v' w' => ∃ O' c', v' = .slice O' (i + 1) c' ∧ DRow w' w.heap.size (L' ++ [(k % 2, m, es)]) (.slice O' (i + 1) c') ∧ Ext w w') (fix_out (w := w) (W1 := W1) (py := py) HR1.out (ext_trans HE.out HE1.out) HES2.out HZ1.out HRP2.out HL.out (by omega) _ (q := wr.heap.size) HQ2.out) ?_
                  rintro v2 w2 ⟨O2, c2, rfl, hd2, hE2⟩
                  have HD2 := Lib.hid hd2
                  have HE2 := Lib.hid hE2
                  clear hd2 hE2
                  go_wp2
                  go_roundw
                  case rel => exact ⟨i + 1, L' ++ [(k % 2, m, es)], O2, c2, by omega, by omega, by rw [List.length_append, HL.out]; rfl, by go_num, rfl, HD2.out, fun m' x' hx' => by
                    by_cases hm' : m' < L'.length
                    · rw [List.getElem?_append_left hm'] at hx'
                      exact HX.out m' x' hx'
                    · rw [List.getElem?_append_right (by omega)] at hx'
                      have hm0 : m' - L'.length = 0 := by
                        have := (List.getElem?_eq_some_iff.1 hx').1
                        simp at this
                        omega
                      rw [hm0] at hx'
                      simp only [List.getElem?_cons_zero, Option.some.injEq] at hx'
                      subst hx'
                      obtain rfl : m' = i := by have := HL.out; omega
                      exact fixNd_make (by omega) hmr (fun _ => by rw [E0.out]; rfl) (fun h => by omega) (by rw [HEL.out]; exact hj2) (fun _ => by omega) HES.out, HE2.out⟩
                  case measure => simp [intOf]; omega
                · have dg : decide (1 < k) = false := decide_eq_false hk1
                  clear e0 he
                  go_wp2_with (at_builtin; refine halt_here ?_)
                  refine go_on ?_
                  refine wpList_append rfl (.tmp 89) (.tmp 91) rfl _ _ rfl rfl (fun v' w' => ∃ O' c', v' = .slice O' (i + 1) c' ∧ DRow w' w.heap.size (L' ++ [(k, m, es)]) (.slice O' (i + 1) c') ∧ Ext w w') (fix_out (w := w) (W1 := W1) (py := py) HR1.out (ext_trans HE.out HE1.out) HER.out HZ1.out HRP.out HL.out (by omega) _ (q := wr.heap.size) rfl) ?_
                  rintro v2 w2 ⟨O2, c2, rfl, hd2, hE2⟩
                  have HD2 := Lib.hid hd2
                  have HE2 := Lib.hid hE2
                  clear hd2 hE2
                  go_wp2
                  go_roundw
                  case rel => exact ⟨i + 1, L' ++ [(k, m, es)], O2, c2, by omega, by omega, by rw [List.length_append, HL.out]; rfl, by go_num, rfl, HD2.out, fun m' x' hx' => by
                    by_cases hm' : m' < L'.length
                    · rw [List.getElem?_append_left hm'] at hx'
                      exact HX.out m' x' hx'
                    · rw [List.getElem?_append_right (by omega)] at hx'
                      have hm0 : m' - L'.length = 0 := by
                        have := (List.getElem?_eq_some_iff.1 hx').1
                        simp at this
                        omega
                      rw [hm0] at hx'
                      simp only [List.getElem?_cons_zero, Option.some.injEq] at hx'
                      subst hx'
                      obtain rfl : m' = i := by have := HL.out; omega
                      exact fixNd_make hkr hmr (fun _ => by rw [E0.out]; rfl) (fun h => by omega) (by rw [HEL.out]; exact hj2) (fun _ => by omega) HES.out, HE2.out⟩
                  case measure => simp [intOf]; omega
              · have dl : ((j : Int) == 0) = false := by rw [beq_eq_false_iff_ne]; omega
                go_wp2_with (at_builtin; refine halt_here ?_)
                refine go_on ?_
                refine wpList_append rfl (.tmp 89) (.tmp 91) rfl _ _ rfl rfl (fun v' w' => ∃ O' c', v' = .slice O' (i + 1) c' ∧ DRow w' w.heap.size (L' ++ [(k, m, es)]) (.slice O' (i + 1) c') ∧ Ext w w') (fix_out (w := w) (W1 := W1) (py := py) HR1.out (ext_trans HE.out HE1.out) HER.out HZ1.out HRP.out HL.out (by omega) _ (q := wr.heap.size) rfl) ?_
                rintro v2 w2 ⟨O2, c2, rfl, hd2, hE2⟩
                have HD2 := Lib.hid hd2
                have HE2 := Lib.hid hE2
                clear hd2 hE2
                go_wp2
                go_roundw
                case rel => exact ⟨i + 1, L' ++ [(k, m, es)], O2, c2, by omega, by omega, by rw [List.length_append, HL.out]; rfl, by go_num, rfl, HD2.out, fun m' x' hx' => by
                  by_cases hm' : m' < L'.length
                  · rw [List.getElem?_append_left hm'] at hx'
                    exact HX.out m' x' hx'
                  · rw [List.getElem?_append_right (by omega)] at hx'
                    have hm0 : m' - L'.length = 0 := by
                      have := (List.getElem?_eq_some_iff.1 hx').1
                      simp at this
                      omega
                    rw [hm0] at hx'
                    simp only [List.getElem?_cons_zero, Option.some.injEq] at hx'
                    subst hx'
                    obtain rfl : m' = i := by have := HL.out; omega
                    exact fixNd_make hkr hmr (fun h => by rw [HEL.out]; exact hk2 h) (fun h => by rw [HEL.out]; exact hk3 h) (by rw [HEL.out]; exact hj2) (fun h => absurd (HEL.out.symm.trans (by rw [h]; rfl)) he) HES.out, HE2.out⟩
                case measure => simp [intOf]; omega
            · have d0 : ((lf : Int) == 0) = false := by rw [beq_eq_false_iff_ne]; omega
              by_cases hj22 : j = 2
              · have d2 : ((j : Int) == 2) = true := by rw [beq_iff_eq]; omega
                have HJ22 := Lib.hid hj22
                have hj0x : ¬ j = 0 := by omega
                clear hj22
                have he : ¬ j = 0 := by omega
                have dl : ((j : Int) == 0) = false := by rw [beq_eq_false_iff_ne]; omega
                go_wp2_with (at_builtin; refine halt_here ?_)
                refine go_on ?_
                refine wpList_append rfl (.tmp 89) (.tmp 91) rfl _ _ rfl rfl (fun v' w' => ∃ O' c', v' = .slice O' (i + 1) c' ∧ DRow w' w.heap.size (L' ++ [(k, m, es)]) (.slice O' (i + 1) c') ∧ Ext w w') (fix_out (w := w) (W1 := W1) (py := py) HR1.out (ext_trans HE.out HE1.out) HER.out HZ1.out HRP.out HL.out (by omega) _ (q := wr.heap.size) rfl) ?_
                rintro v2 w2 ⟨O2, c2, rfl, hd2, hE2⟩
                have HD2 := Lib.hid hd2
                have HE2 := Lib.hid hE2
                clear hd2 hE2
                go_wp2
                go_roundw
                case rel => exact ⟨i + 1, L' ++ [(k, m, es)], O2, c2, by omega, by omega, by rw [List.length_append, HL.out]; rfl, by go_num, rfl, HD2.out, fun m' x' hx' => by
                  by_cases hm' : m' < L'.length
                  · rw [List.getElem?_append_left hm'] at hx'
                    exact HX.out m' x' hx'
                  · rw [List.getElem?_append_right (by omega)] at hx'
                    have hm0 : m' - L'.length = 0 := by
                      have := (List.getElem?_eq_some_iff.1 hx').1
                      simp at this
                      omega
                    rw [hm0] at hx'
                    simp only [List.getElem?_cons_zero, Option.some.injEq] at hx'
                    subst hx'
                    obtain rfl : m' = i := by have := HL.out; omega
                    exact fixNd_make hkr hmr (fun h => by rw [HEL.out]; exact hk2 h) (fun h => by rw [HEL.out]; exact hk3 h) (by rw [HEL.out]; exact hj2) (fun h => absurd (HEL.out.symm.trans (by rw [h]; rfl)) he) HES.out, HE2.out⟩
                case measure => simp [intOf]; omega
              · have d2 : ((j : Int) == 2) = false := by rw [beq_eq_false_iff_ne]; omega
                by_cases hk : 3 < k
                · have d3 : decide (3 < k) = true := decide_eq_true hk
                  by_cases hj1 : j = 1
                  · have d1 : ((j : Int) == 1) = true := by rw [beq_iff_eq]; omega
                    have HJ1 := Lib.hid hj1
                    have hj0x : ¬ j = 0 := by omega
                    clear hj1
                    have he : ¬ j = 0 := by omega
                    have dl : ((j : Int) == 0) = false := by rw [beq_eq_false_iff_ne]; omega
                    go_wp2_with (at_builtin; refine halt_here ?_)
                    refine go_on ?_
                    refine wpList_append rfl (.tmp 89) (.tmp 91) rfl _ _ rfl rfl (fun v' w' => ∃ O' c', v' = .slice O' (i + 1) c' ∧ DRow w' w.heap.size (L' ++ [(k, m, es)]) (.slice O' (i + 1) c') ∧ Ext w w') (fix_out (w := w) (W1 := W1) (py := py) HR1.out (ext_trans HE.out HE1.out) HER.out HZ1.out HRP.out HL.out (by omega) _ (q := wr.heap.size) rfl) ?_
                    rintro v2 w2 ⟨O2, c2, rfl, hd2, hE2⟩
                    have HD2 := Lib.hid hd2
                    have HE2 := Lib.hid hE2
                    clear hd2 hE2
                    go_wp2
                    go_roundw
                    case rel => exact ⟨i + 1, L' ++ [(k, m, es)], O2, c2, by omega, by omega, by rw [List.length_append, HL.out]; rfl, by go_num, rfl, HD2.out, fun m' x' hx' => by
                      by_cases hm' : m' < L'.length
                      · rw [List.getElem?_append_left hm'] at hx'
                        exact HX.out m' x' hx'
                      · rw [List.getElem?_append_right (by omega)] at hx'
                        have hm0 : m' - L'.length = 0 := by
                          have := (List.getElem?_eq_some_iff.1 hx').1
                          simp at this
                          omega
                        rw [hm0] at hx'
                        simp only [List.getElem?_cons_zero, Option.some.injEq] at hx'
                        subst hx'
                        obtain rfl : m' = i := by have := HL.out; omega
                        exact fixNd_make hkr hmr (fun h => by rw [HEL.out]; exact hk2 h) (fun h => by rw [HEL.out]; exact hk3 h) (by rw [HEL.out]; exact hj2) (fun h => absurd (HEL.out.symm.trans (by rw [h]; rfl)) he) HES.out, HE2.out⟩
                    case measure => simp [intOf]; omega
                  · have d1 : ((j : Int) == 1) = false := by rw [beq_eq_false_iff_ne]; omega
                    have dk : decide (k < 2) = false := decide_eq_false (by omega)
                    have nfp : ¬ (Value.slice P j c).ownBlock = some py := fun e => by have := HRP.out.2 py e; omega
                    have q1 : ∀ pw : UW (fun b => (Value.slice P j c).ownBlock = some b) wr, pw.val.cell? ⟨py, 2, none⟩ = some (.slice P j c) := uw_cell p2 nfp
                    have hlfp : 0 < lf := Nat.pos_of_ne_zero hlf0
                    have hlf8 : min (lf : Int) 8 = (lf : Int) := by have := HLF.out; omega
                    have HRM := Lib.hid (u8mod hy8 hlfp)
                    have hyw : IntKind.i64.wrap (y : Int) = (y : Int) := wrap_small _ (by omega) (by omega)
                    have hml : y % lf < lf := Nat.mod_lt _ hlfp
                    go_wp2_with fail
                    clear p0 p1 p2 fp0 fp2
                    refine wp_region_upd (fp := fun b => (Value.slice P j c).ownBlock = some b) [] [0, 1, 2, 3, 4, 5, 6, 7] [(8, oneF elU wr.heap.size (y % lf))] 9 (fun v w' => rowF elU (py + 1) (es ++ [y % lf]) v w') [10, 11] [8, 9] rfl (by kernel_rfl) (by kernel_rfl) (by kernel_rfl) (fun _ _ d _ _ h => by cases d <;> exact h) ?_
                    refine wpPre_nil ?_
                    repeat (refine wpU_step rfl (fun K hK => ?_); (try simp only [Oper.quietAt, Oper.quietUpon]); go_simp; (refine hK _ ?_; clear hK K))
                    refine wpU_nil ?_
                    refine wpGen_step rfl rfl oneF_ext (fun w6 hE6 hS6 => ?_) (fun v0 => ?_)
                    · simp only [runsAt]
                      go_simp
                      exact ⟨ext_alloc (ext_refl _) _, _, rfl, ext_size hE6, by rw [HRM.out]; exact heap_alloc_new w6 _⟩
                    refine wpGen_nil ?_
                    refine ⟨⟨_, rfl, rfl, fun v a b hE hR => rowF_ext _ _ _ hE hR⟩, fun w6 hE6 hS6 o ho => ?_, fun o ho v w6 hU6 hR6 => ?_⟩
                    · cases ho
                      have hone : oneF elU wr.heap.size (y % lf) v0 w6 := hS6 _ (List.mem_cons_self ..)
                      refine runs_append (sv := .slice P j c) (xv := v0) (.tmp 65) (.tmp 72) rfl rfl rfl ?_
                      obtain ⟨v', w', hrun, hr, hg, hat⟩ := append_at tpU 24 (py + 1) (.slice P j c) v0 es [y % lf] w6 (rowF_ext _ _ _ hE6 HRP.out) (srcOf_one hone) (by rw [HEL.out]; simp; omega) (Nat.le_trans lp (ext_size hE6))
                      exact ⟨v', w', hrun, upd_grown hg, hr⟩
                    · cases ho
                      have hr6 : rowF elU (py + 1) (es ++ [y % lf]) v w6 := hR6
                      obtain ⟨A6, c6, hv6⟩ := rowE_form hr6.1
                      have hl6 : (es ++ [y % lf]).length = j + 1 := by rw [List.length_append, HEL.out]; rfl
                      rw [hl6] at hv6
                      subst hv6
                      have hpb6 := (hU6.block py lp nfp).trans HPC.out
                      have y3 : w6.cell? ⟨py, 2, none⟩ = some (.slice P j c) := q1 ⟨w6, hU6⟩
                      have f3 := block_frozen hpb6 2
                      have lp6 := block_lt hpb6
                      have HPB6 := Lib.hid (show (w6.setCell ⟨py, 2, none⟩ (.slice A6 (j + 1) c6)).heap[py]? = some (.cells #[.int .i64 k, .int .i64 m, .slice A6 (j + 1) c6] 26 (0, 0)) from heap_setCell_at hpb6)
                      have HR6 := Lib.hid (show rowF elU (py + 1) (es ++ [y % lf]) (.slice A6 (j + 1) c6) (w6.setCell ⟨py, 2, none⟩ (.slice A6 (j + 1) c6)) from rowF_upd hr6 (upd_setCell _) (fun b hb e => by have h8 := hr6.2 b hb; have h9 : b = py := e; omega))
                      have HX6 := Lib.hid (show Ext W1 (w6.setCell ⟨py, 2, none⟩ (.slice A6 (j + 1) c6)) from ext_set (ext_updL HER.out hU6 (fun b hb => by have h8 := HRP.out.2 b hb; have h9 := HZ1.out; omega)) (Nat.le_of_eq HZ1.out) _)
                      have HL6 := Lib.hid hl6
                      clear q1 hr6 hU6 hR6 hpb6 hl6
                      refine wpSeq_of_list [10, 11] [_, _] _ _ rfl ?_
                      go_wp2
                      go_roundw
                      case rel => exact ⟨j + 1, es ++ [y % lf], A6, c6, by omega, by omega, HL6.out, by go_num, HPB6.out, HR6.out, fun d hd => by
                        rcases List.mem_append.1 hd with hd | hd
                        · exact HES.out d hd
                        · rw [List.mem_singleton.1 hd]; have := HLF.out; omega, fun h => by omega, fun h => by omega, HX6.out⟩
                      case measure => simp [intOf]; omega
                · have d3 : decide (3 < k) = false := decide_eq_false hk
                  by_cases hkk : k < 2
                  · have dk : decide (k < 2) = true := decide_eq_true hkk
                    have he : j = 0 := hk2 hkk
                    have e0 : es = [] := List.length_eq_zero_iff.1 (by rw [HEL.out]; exact he)
                    have E0 := Lib.hid e0
                    have dl : ((j : Int) == 0) = true := by rw [beq_iff_eq]; omega
                    have hk1 : ¬ 1 < k := by omega
                    clear hk2
                    have dg : decide (1 < k) = false := decide_eq_false hk1
                    clear e0 he
                    go_wp2_with (at_builtin; refine halt_here ?_)
                    refine go_on ?_
                    refine wpList_append rfl (.tmp 89) (.tmp 91) rfl _ _ rfl rfl (fun v' w' => ∃ O' c', v' = .slice O' (i + 1) c' ∧ DRow w' w.heap.size (L' ++ [(k, m, es)]) (.slice O' (i + 1) c') ∧ Ext w w') (fix_out (w := w) (W1 := W1) (py := py) HR1.out (ext_trans HE.out HE1.out) HER.out HZ1.out HRP.out HL.out (by omega) _ (q := wr.heap.size) rfl) ?_
                    rintro v2 w2 ⟨O2, c2, rfl, hd2, hE2⟩
                    have HD2 := Lib.hid hd2
                    have HE2 := Lib.hid hE2
                    clear hd2 hE2
                    go_wp2
                    go_roundw
                    case rel => exact ⟨i + 1, L' ++ [(k, m, es)], O2, c2, by omega, by omega, by rw [List.length_append, HL.out]; rfl, by go_num, rfl, HD2.out, fun m' x' hx' => by
                      by_cases hm' : m' < L'.length
                      · rw [List.getElem?_append_left hm'] at hx'
                        exact HX.out m' x' hx'
                      · rw [List.getElem?_append_right (by omega)] at hx'
                        have hm0 : m' - L'.length = 0 := by
                          have := (List.getElem?_eq_some_iff.1 hx').1
                          simp at this
                          omega
                        rw [hm0] at hx'
                        simp only [List.getElem?_cons_zero, Option.some.injEq] at hx'
                        subst hx'
                        obtain rfl : m' = i := by have := HL.out; omega
                        exact fixNd_make hkr hmr (fun _ => by rw [E0.out]; rfl) (fun h => by omega) (by rw [HEL.out]; exact hj2) (fun _ => by omega) HES.out, HE2.out⟩
                    case measure => simp [intOf]; omega
                  · have dk : decide (k < 2) = false := decide_eq_false hkk
                    have nfp : ¬ (Value.slice P j c).ownBlock = some py := fun e => by have := HRP.out.2 py e; omega
                    have q1 : ∀ pw : UW (fun b => (Value.slice P j c).ownBlock = some b) wr, pw.val.cell? ⟨py, 2, none⟩ = some (.slice P j c) := uw_cell p2 nfp
                    have hlfp : 0 < lf := Nat.pos_of_ne_zero hlf0
                    have hlf8 : min (lf : Int) 8 = (lf : Int) := by have := HLF.out; omega
                    have HRM := Lib.hid (u8mod hy8 hlfp)
                    have hyw : IntKind.i64.wrap (y : Int) = (y : Int) := wrap_small _ (by omega) (by omega)
                    have hml : y % lf < lf := Nat.mod_lt _ hlfp
                    go_wp2_with fail
                    clear p0 p1 p2 fp0 fp2
                    refine wp_region_upd (fp := fun b => (Value.slice P j c).ownBlock = some b) [] [0, 1, 2, 3, 4, 5, 6, 7] [(8, oneF elU wr.heap.size (y % lf))] 9 (fun v w' => rowF elU (py + 1) (es ++ [y % lf]) v w') [10, 11] [8, 9] rfl (by kernel_rfl) (by kernel_rfl) (by kernel_rfl) (fun _ _ d _ _ h => by cases d <;> exact h) ?_
                    refine wpPre_nil ?_
                    repeat (refine wpU_step rfl (fun K hK => ?_); (try simp only [Oper.quietAt, Oper.quietUpon]); go_simp; (refine hK _ ?_; clear hK K))
                    refine wpU_nil ?_
                    refine wpGen_step rfl rfl oneF_ext (fun w6 hE6 hS6 => ?_) (fun v0 => ?_)
                    · simp only [runsAt]
                      go_simp
                      exact ⟨ext_alloc (ext_refl _) _, _, rfl, ext_size hE6, by rw [HRM.out]; exact heap_alloc_new w6 _⟩
                    refine wpGen_nil ?_
                    refine ⟨⟨_, rfl, rfl, fun v a b hE hR => rowF_ext _ _ _ hE hR⟩, fun w6 hE6 hS6 o ho => ?_, fun o ho v w6 hU6 hR6 => ?_⟩
                    · cases ho
                      have hone : oneF elU wr.heap.size (y % lf) v0 w6 := hS6 _ (List.mem_cons_self ..)
                      refine runs_append (sv := .slice P j c) (xv := v0) (.tmp 65) (.tmp 72) rfl rfl rfl ?_
                      obtain ⟨v', w', hrun, hr, hg, hat⟩ := append_at tpU 24 (py + 1) (.slice P j c) v0 es [y % lf] w6 (rowF_ext _ _ _ hE6 HRP.out) (srcOf_one hone) (by rw [HEL.out]; simp; omega) (Nat.le_trans lp (ext_size hE6))
                      exact ⟨v', w', hrun, upd_grown hg, hr⟩
                    · cases ho
                      have hr6 : rowF elU (py + 1) (es ++ [y % lf]) v w6 := hR6
                      obtain ⟨A6, c6, hv6⟩ := rowE_form hr6.1
                      have hl6 : (es ++ [y % lf]).length = j + 1 := by rw [List.length_append, HEL.out]; rfl
                      rw [hl6] at hv6
                      subst hv6
                      have hpb6 := (hU6.block py lp nfp).trans HPC.out
                      have y3 : w6.cell? ⟨py, 2, none⟩ = some (.slice P j c) := q1 ⟨w6, hU6⟩
                      have f3 := block_frozen hpb6 2
                      have lp6 := block_lt hpb6
                      have HPB6 := Lib.hid (show (w6.setCell ⟨py, 2, none⟩ (.slice A6 (j + 1) c6)).heap[py]? = some (.cells #[.int .i64 k, .int .i64 m, .slice A6 (j + 1) c6] 26 (0, 0)) from heap_setCell_at hpb6)
                      have HR6 := Lib.hid (show rowF elU (py + 1) (es ++ [y % lf]) (.slice A6 (j + 1) c6) (w6.setCell ⟨py, 2, none⟩ (.slice A6 (j + 1) c6)) from rowF_upd hr6 (upd_setCell _) (fun b hb e => by have h8 := hr6.2 b hb; have h9 : b = py := e; omega))
                      have HX6 := Lib.hid (show Ext W1 (w6.setCell ⟨py, 2, none⟩ (.slice A6 (j + 1) c6)) from ext_set (ext_updL HER.out hU6 (fun b hb => by have h8 := HRP.out.2 b hb; have h9 := HZ1.out; omega)) (Nat.le_of_eq HZ1.out) _)
                      have HL6 := Lib.hid hl6
                      clear q1 hr6 hU6 hR6 hpb6 hl6
                      refine wpSeq_of_list [10, 11] [_, _] _ _ rfl ?_
                      go_wp2
                      go_roundw
                      case rel => exact ⟨j + 1, es ++ [y % lf], A6, c6, by omega, by omega, HL6.out, by go_num, HPB6.out, HR6.out, fun d hd => by
                        rcases List.mem_append.1 hd with hd | hd
                        · exact HES.out d hd
                        · rw [List.mem_singleton.1 hd]; have := HLF.out; omega, fun h => by omega, fun h => by omega, HX6.out⟩
                      case measure => simp [intOf]; omega
          · have hjj : ¬ (j : Int) < (ds.length : Int) := by omega
            by_cases he : j = 0
            · have e0 : es = [] := List.length_eq_zero_iff.1 (by rw [HEL.out]; exact he)
              have E0 := Lib.hid e0
              have dl : ((j : Int) == 0) = true := by rw [beq_iff_eq]; omega
              by_cases hk1 : 1 < k
              · have dg : decide (1 < k) = true := decide_eq_true hk1
                have hes2 : Ext W1 (wr.setCell ⟨py, 0, none⟩ (.int .i64 (k % 2))) := ext_set HER.out (Nat.le_of_eq HZ1.out) _
                have hrp2 : rowF elU (py + 1) es (.slice P j c) (wr.setCell ⟨py, 0, none⟩ (.int .i64 (k % 2))) := rowF_upd HRP.out (upd_setCell _) (fun b hb e => by have h8 := HRP.out.2 b hb; have h9 : b = py := e; omega)
                have hq2 : (wr.setCell ⟨py, 0, none⟩ (.int .i64 (k % 2))).heap.size = wr.heap.size := by simp [World.setCell]
                have HES2 := Lib.hid hes2
                have HRP2 := Lib.hid hrp2
                have HQ2 := Lib.hid hq2
                have hkm : 0 ≤ k % 2 ∧ k % 2 < 2 := by omega
                clear e0 he hes2 hrp2 hq2
                go_wp2_with (at_builtin; refine halt_here ?_)
                refine go_on ?_
                refine wpList_append rfl (.tmp 89) (.tmp 91) rfl _ _ rfl rfl (fun v' w' => ∃ O' c', v' = .slice O' (i + 1) c' ∧ DRow w' w.heap.size (L' ++ [(k % 2, m, es)]) (.slice O' (i + 1) c') ∧ Ext w w') (fix_out (w := w) (W1 := W1) (py := py) HR1.out (ext_trans HE.out HE1.out) HES2.out HZ1.out HRP2.out HL.out (by omega) _ (q := wr.heap.size) HQ2.out) ?_
                rintro v2 w2 ⟨O2, c2, rfl, hd2, hE2⟩
                have HD2 := Lib.hid hd2
                have HE2 := Lib.hid hE2
                clear hd2 hE2
                go_wp2
                go_roundw
                case rel => exact ⟨i + 1, L' ++ [(k % 2, m, es)], O2, c2, by omega, by omega, by rw [List.length_append, HL.out]; rfl, by go_num, rfl, HD2.out, fun m' x' hx' => by
                  by_cases hm' : m' < L'.length
                  · rw [List.getElem?_append_left hm'] at hx'
                    exact HX.out m' x' hx'
                  · rw [List.getElem?_append_right (by omega)] at hx'
                    have hm0 : m' - L'.length = 0 := by
                      have := (List.getElem?_eq_some_iff.1 hx').1
                      simp at this
                      omega
                    rw [hm0] at hx'
                    simp only [List.getElem?_cons_zero, Option.some.injEq] at hx'
                    subst hx'
                    obtain rfl : m' = i := by have := HL.out; omega
                    exact fixNd_make (by omega) hmr (fun _ => by rw [E0.out]; rfl) (fun h => by omega) (by rw [HEL.out]; exact hj2) (fun _ => by omega) HES.out, HE2.out⟩
                case measure => simp [intOf]; omega
              · have dg : decide (1 < k) = false := decide_eq_false hk1
                clear e0 he
                go_wp2_with (at_builtin; refine halt_here ?_)
                refine go_on ?_
                refine wpList_append rfl (.tmp 89) (.tmp 91) rfl _ _ rfl rfl (fun v' w' => ∃ O' c', v' = .slice O' (i + 1) c' ∧ DRow w' w.heap.size (L' ++ [(k, m, es)]) (.slice O' (i + 1) c') ∧ Ext w w') (fix_out (w := w) (W1 := W1) (py := py) HR1.out (ext_trans HE.out HE1.out) HER.out HZ1.out HRP.out HL.out (by omega) _ (q := wr.heap.size) rfl) ?_
                rintro v2 w2 ⟨O2, c2, rfl, hd2, hE2⟩
                have HD2 := Lib.hid hd2
                have HE2 := Lib.hid hE2
                clear hd2 hE2
                go_wp2
                go_roundw
                case rel => exact ⟨i + 1, L' ++ [(k, m, es)], O2, c2, by omega, by omega, by rw [List.length_append, HL.out]; rfl, by go_num, rfl, HD2.out, fun m' x' hx' => by
                  by_cases hm' : m' < L'.length
                  · rw [List.getElem?_append_left hm'] at hx'
                    exact HX.out m' x' hx'
                  · rw [List.getElem?_append_right (by omega)] at hx'
                    have hm0 : m' - L'.length = 0 := by
                      have := (List.getElem?_eq_some_iff.1 hx').1
                      simp at this
                      omega
                    rw [hm0] at hx'
                    simp only [List.getElem?_cons_zero, Option.some.injEq] at hx'
                    subst hx'
                    obtain rfl : m' = i := by have := HL.out; omega
                    exact fixNd_make hkr hmr (fun _ => by rw [E0.out]; rfl) (fun h => by omega) (by rw [HEL.out]; exact hj2) (fun _ => by omega) HES.out, HE2.out⟩
                case measure => simp [intOf]; omega
            · have dl : ((j : Int) == 0) = false := by rw [beq_eq_false_iff_ne]; omega
              go_wp2_with (at_builtin; refine halt_here ?_)
              refine go_on ?_
              refine wpList_append rfl (.tmp 89) (.tmp 91) rfl _ _ rfl rfl (fun v' w' => ∃ O' c', v' = .slice O' (i + 1) c' ∧ DRow w' w.heap.size (L' ++ [(k, m, es)]) (.slice O' (i + 1) c') ∧ Ext w w') (fix_out (w := w) (W1 := W1) (py := py) HR1.out (ext_trans HE.out HE1.out) HER.out HZ1.out HRP.out HL.out (by omega) _ (q := wr.heap.size) rfl) ?_
              rintro v2 w2 ⟨O2, c2, rfl, hd2, hE2⟩
              have HD2 := Lib.hid hd2
              have HE2 := Lib.hid hE2
              clear hd2 hE2
              go_wp2
              go_roundw
              case rel => exact ⟨i + 1, L' ++ [(k, m, es)], O2, c2, by omega, by omega, by rw [List.length_append, HL.out]; rfl, by go_num, rfl, HD2.out, fun m' x' hx' => by
                by_cases hm' : m' < L'.length
                · rw [List.getElem?_append_left hm'] at hx'
                  exact HX.out m' x' hx'
                · rw [List.getElem?_append_right (by omega)] at hx'
                  have hm0 : m' - L'.length = 0 := by
                    have := (List.getElem?_eq_some_iff.1 hx').1
                    simp at this
                    omega
                  rw [hm0] at hx'
                  simp only [List.getElem?_cons_zero, Option.some.injEq] at hx'
                  subst hx'
                  obtain rfl : m' = i := by have := HL.out; omega
                  exact fixNd_make hkr hmr (fun h => by rw [HEL.out]; exact hk2 h) (fun h => by rw [HEL.out]; exact hk3 h) (by rw [HEL.out]; exact hj2) (fun h => absurd (HEL.out.symm.trans (by rw [h]; rfl)) he) HES.out, HE2.out⟩
              case measure => simp [intOf]; omega
    · obtain rfl : i = L.length := by omega
      go_wp2
      refine bodyPost_ret (results_tmp rfl _ _ _) rfl ?_
      exact ⟨L', _, rfl, drow_rd HR.out HX.out, by
          have : L'.length = n := by rw [HL.out, HN.out]; omega
          intro m x hm
          rw [this]
          exact HX.out m x hm, HL.out.trans (by omega), HE.out⟩
end Go.Proofs.Ytiabmdboacpmcaa
/- What the laws of paths lean on. -/
namespace Go.Proofs.Ytiabmdboacpmcaa
open Go Go.RowKit Go.Sort
set_option maxHeartbeats 1000000

def TFPost (m : Nat) (w : World) (e : Ending) (w' : World) : Prop := ∃ (rb n : Nat) (t : Tr) (k z : Int) (A : Option Addr) (q c : Nat), e = .returned (.tuple #[.slice (some ⟨rb, 0, none⟩) n n, .agg #[.int .i64 k, .int .i64 z, .slice A q c]]) ∧ n ≤ 100 ∧ Fit m t ∧ Lst w' rb n t 0 ∧ PV w' t (.agg #[.int .i64 k, .int .i64 z, .slice A q c]) ∧ Ext w w'
theorem tree_fix (m : Nat) (hm : 1 ≤ m) (hm8 : m ≤ 8) (v : Value) (L : List Nd) (w : World) (hv : RdNd w v L) (hF : Fixed L) (hl : L.length ≤ m) : Calls Try.prog 20 #[v] w (TFPost m w) := by
  refine (tree_any v L w hv (by omega)).mono ?_
  rintro e w2 ⟨rb, n, lo, H, t, a, b, s, rfl, hn, ht, hT, hX, hrl, hlH, hHz, hE2⟩
  have hnl := nodesOf_length L
  have hft := fixed_trs (nodesOf L) (by omega) (fixed_nodes hF) t (List.mem_of_getElem? ht)
  have hV := TX_PV hX
  obtain ⟨k, z, A, q, c, rfl, rfl, rfl⟩ := TX_form hX
  exact ⟨rb, n, t, k, z, A, q, c, rfl, by omega, fit_mono hft (by omega), ⟨lo, H, hHz, hT⟩, hV, hE2⟩
theorem bne_self (b : Bool) : (b != b) = false := by cases b <;> rfl
theorem beq_self (b : Bool) : (b == b) = true := by cases b <;> rfl
end Go.Proofs.Ytiabmdboacpmcaa
