/- The document's form and Check. -/
import Derived.Test.YtiabmdboacpmcaaPx
namespace Go.Proofs.Ytiabmdboacpmcaa
open Go Go.RowKit Go.Sort
set_option maxHeartbeats 1000000

theorem formL_take {ps : List Tr} {j : Nat} {q : Tr} (h : ps[j]? = some q) : formL (ps.take (j + 1)) = (formL (ps.take j) && formB q) := by
  induction ps generalizing j with
  | nil => simp at h
  | cons p r ih =>
    cases j with
    | zero =>
      simp only [List.getElem?_cons_zero, Option.some.injEq] at h
      subst h
      simp [formL]
    | succ j =>
      have := ih (j := j) (by simpa using h)
      rw [List.take_succ_cons, formL, this, List.take_succ_cons, formL, Bool.and_assoc]
theorem formL_false {ps : List Tr} {j : Nat} {q : Tr} (h : ps[j]? = some q) (hf : formB q = false) : formL ps = false := by
  induction ps generalizing j with
  | nil => simp at h
  | cons p r ih =>
    rw [formL]
    cases j with
    | zero =>
      simp only [List.getElem?_cons_zero, Option.some.injEq] at h
      subst h
      rw [hf]; rfl
    | succ j =>
      rw [ih (j := j) (by simpa using h), Bool.and_false]
def RFormAt (N : Nat) : Prop := ∀ (t : Tr) (rb n x : Nat) (w : World), sizeT t ≤ N → n ≤ 100 → Lst w rb n t x → Calls Try.prog 57 #[.slice (some ⟨rb, 0, none⟩) n n, .int .i64 (x : Int)] w fun e w' => e = .returned (.bool (formB t)) ∧ Ext w w'
theorem rform_step {N : Nat} (hd : RFormAt N) (hN1 : N ≤ 100000) : RFormAt (N + 1) := by
  intro t rb n x w hN hn hl
  cases t with
  | node k m ps =>
    rw [sizeT] at hN
    have hlen := sizeL_len ps
    have HD := Lib.hid hd
    obtain ⟨hx, lrb, q1, q2, A, c, q3, hc, hch⟩ := lst_node hl
    have hxi : (x : Int) < (n : Int) := by omega
    have hx0 : (0 : Int) ≤ (x : Int) := by omega
    have HCH := Lib.hid hch
    clear hd hl hch
    by_cases hlo : k < 0
    · have hf : formB (.node k m ps) = false := by rw [formB, if_neg (by omega), if_neg (by omega), if_neg (by omega)]
      rw [hf]
      clear hf
      go_enter Try.func57, Try.ntmps57
      go_wp2
      refine bodyPost_ret (results_tmp rfl _ _ _) rfl ?_
      exact ⟨rfl, ext_alloc (ext_refl _) _⟩
    by_cases hhi : 6 < k
    · have hf : formB (.node k m ps) = false := by rw [formB, if_neg (by omega), if_neg (by omega), if_neg (by omega)]
      rw [hf]
      clear hf
      go_enter Try.func57, Try.ntmps57
      go_wp2
      refine bodyPost_ret (results_tmp rfl _ _ _) rfl ?_
      exact ⟨rfl, ext_alloc (ext_refl _) _⟩
    by_cases h01 : k = 0 ∨ k = 1
    · have hf : formB (.node k m ps) = (decide (ps = []) && decide (0 ≤ m)) := by rw [formB, if_pos h01]
      rw [hf]
      clear hf
      by_cases hps : ps = []
      · subst hps
        simp only [List.length_nil] at *
        by_cases hm : 0 ≤ m
        · rw [decide_eq_true hm]
          rcases h01 with rfl | rfl
          · go_enter Try.func57, Try.ntmps57
            go_wp2
            go_loopw [63] (fun x wr => x = .int .i64 0 ∧ Ext w wr) (fun _ _ => 0)
            case atStart => exact ⟨rfl, ext_alloc (ext_refl _) _⟩
            case round =>
              obtain ⟨rfl, hE⟩ := hrel
              have HE := Lib.hid hE
              clear hE
              go_wp2
              refine bodyPost_ret (results_tmp rfl _ _ _) rfl ?_
              exact ⟨rfl, HE.out⟩
          · go_enter Try.func57, Try.ntmps57
            go_wp2
            go_loopw [63] (fun x wr => x = .int .i64 0 ∧ Ext w wr) (fun _ _ => 0)
            case atStart => exact ⟨rfl, ext_alloc (ext_refl _) _⟩
            case round =>
              obtain ⟨rfl, hE⟩ := hrel
              have HE := Lib.hid hE
              clear hE
              go_wp2
              refine bodyPost_ret (results_tmp rfl _ _ _) rfl ?_
              exact ⟨rfl, HE.out⟩
        · rw [decide_eq_false hm]
          rcases h01 with rfl | rfl
          all_goals
            go_enter Try.func57, Try.ntmps57
            go_wp2
            refine bodyPost_ret (results_tmp rfl _ _ _) rfl ?_
            exact ⟨rfl, ext_alloc (ext_refl _) _⟩
      · rw [decide_eq_false hps, Bool.false_and]
        have hl0 : (0 : Int) < (ps.length : Int) := by have := List.length_pos_iff.2 hps; omega
        have H := Lib.hid hps
        clear hps
        rcases h01 with rfl | rfl
        all_goals
          go_enter Try.func57, Try.ntmps57
          go_wp2
          refine bodyPost_ret (results_tmp rfl _ _ _) rfl ?_
          exact ⟨rfl, ext_alloc (ext_refl _) _⟩
    by_cases h23 : k = 2 ∨ k = 3
    · have hf : formB (.node k m ps) = (!decide (ps = []) && formL ps) := by rw [formB, if_neg h01, if_pos h23]
      rw [hf]
      clear hf h01
      by_cases hps : ps = []
      · subst hps
        simp only [List.length_nil] at *
        rcases h23 with rfl | rfl
        all_goals
          go_enter Try.func57, Try.ntmps57
          go_wp2
          refine bodyPost_ret (results_tmp rfl _ _ _) rfl ?_
          exact ⟨rfl, ext_alloc (ext_refl _) _⟩
      · rw [decide_eq_false hps, Bool.not_false, Bool.true_and]
        have hl0 : ((ps.length : Int) == 0) = false := by have := List.length_pos_iff.2 hps; rw [beq_eq_false_iff_ne]; omega
        have H := Lib.hid hps
        clear hps
        rcases h23 with rfl | rfl
        · go_enter Try.func57, Try.ntmps57
          go_wp2
          go_loopw [63] (fun x wr => ∃ j : Nat, j ≤ ps.length ∧ x = .int .i64 j ∧ formL (ps.take j) = true ∧ Ext w wr ∧ wr.heap[w.heap.size]? = some (.cells #[.int .i64 2, .int .i64 m, .slice A ps.length c] 102 (0, 0))) (fun x _ => ps.length - (intOf x).toNat)
          case atStart => exact ⟨0, Nat.zero_le _, rfl, by simp [formL], ext_alloc (ext_refl _) _, heap_alloc_new _ _⟩
          case round =>
            rename World => wo
            obtain ⟨j, hj, rfl, hf, hE, hb⟩ := hrel
            have HE := Lib.hid hE
            have HB := Lib.hid hb
            have HF := Lib.hid hf
            have p2 : wo.cell? ⟨w.heap.size, 2, none⟩ = some (.slice A ps.length c) := block_cell hb 2
            have lb := block_lt hb
            clear hE hb hf q1 q2 q3 lrb
            by_cases hlt : j < ps.length
            · have hji : (j : Int) < (ps.length : Int) := by omega
              have hj0 : (0 : Int) ≤ (j : Int) := by omega
              obtain ⟨q, hq⟩ : ∃ q, ps[j]? = some q := ⟨_, List.getElem?_eq_getElem hlt⟩
              have HQ := Lib.hid hq
              have hqs := sizeL_mem (List.mem_of_getElem? hq)
              obtain ⟨g, y, hA, lg, hgy, hyn, hly⟩ := HCH.out j q hq
              subst hA
              have HLY := Lib.hid (lst_ext hly HE.out)
              have hgy' := (ext_cell HE.out _ _ lg).trans hgy
              have lg' := ext_lt HE.out lg
              clear hq hly hgy lg
              go_wp2_with fail
              refine (HD.out q rb n y _ (by omega) hn HLY.out).mono ?_
              rintro e w1 ⟨rfl, hE1⟩
              have HE1 := Lib.hid (ext_trans HE.out hE1)
              have HB1 := Lib.hid ((ext_block hE1 lb).trans HB.out)
              clear hE1 hgy' lg' p2 lb
              cases hfq : formB q with
              | true =>
                have HFQ := Lib.hid hfq
                clear hfq
                go_wp2
                go_roundw
                case rel => exact ⟨j + 1, by omega, by go_num, by rw [formL_take HQ.out, HF.out, HFQ.out]; rfl, HE1.out, HB1.out⟩
                case measure => simp [intOf]; omega
              | false =>
                have HFQ := Lib.hid hfq
                clear hfq
                go_wp2
                refine bodyPost_ret (results_tmp rfl _ _ _) rfl ?_
                exact ⟨by rw [formL_false HQ.out HFQ.out]; rfl, HE1.out⟩
            · obtain rfl : j = ps.length := by omega
              rw [List.take_length] at HF
              go_wp2
              refine bodyPost_ret (results_tmp rfl _ _ _) rfl ?_
              exact ⟨by rw [HF.out]; rfl, HE.out⟩
        · go_enter Try.func57, Try.ntmps57
          go_wp2
          go_loopw [63] (fun x wr => ∃ j : Nat, j ≤ ps.length ∧ x = .int .i64 j ∧ formL (ps.take j) = true ∧ Ext w wr ∧ wr.heap[w.heap.size]? = some (.cells #[.int .i64 3, .int .i64 m, .slice A ps.length c] 102 (0, 0))) (fun x _ => ps.length - (intOf x).toNat)
          case atStart => exact ⟨0, Nat.zero_le _, rfl, by simp [formL], ext_alloc (ext_refl _) _, heap_alloc_new _ _⟩
          case round =>
            rename World => wo
            obtain ⟨j, hj, rfl, hf, hE, hb⟩ := hrel
            have HE := Lib.hid hE
            have HB := Lib.hid hb
            have HF := Lib.hid hf
            have p2 : wo.cell? ⟨w.heap.size, 2, none⟩ = some (.slice A ps.length c) := block_cell hb 2
            have lb := block_lt hb
            clear hE hb hf q1 q2 q3 lrb
            by_cases hlt : j < ps.length
            · have hji : (j : Int) < (ps.length : Int) := by omega
              have hj0 : (0 : Int) ≤ (j : Int) := by omega
              obtain ⟨q, hq⟩ : ∃ q, ps[j]? = some q := ⟨_, List.getElem?_eq_getElem hlt⟩
              have HQ := Lib.hid hq
              have hqs := sizeL_mem (List.mem_of_getElem? hq)
              obtain ⟨g, y, hA, lg, hgy, hyn, hly⟩ := HCH.out j q hq
              subst hA
              have HLY := Lib.hid (lst_ext hly HE.out)
              have hgy' := (ext_cell HE.out _ _ lg).trans hgy
              have lg' := ext_lt HE.out lg
              clear hq hly hgy lg
              go_wp2_with fail
              refine (HD.out q rb n y _ (by omega) hn HLY.out).mono ?_
              rintro e w1 ⟨rfl, hE1⟩
              have HE1 := Lib.hid (ext_trans HE.out hE1)
              have HB1 := Lib.hid ((ext_block hE1 lb).trans HB.out)
              clear hE1 hgy' lg' p2 lb
              cases hfq : formB q with
              | true =>
                have HFQ := Lib.hid hfq
                clear hfq
                go_wp2
                go_roundw
                case rel => exact ⟨j + 1, by omega, by go_num, by rw [formL_take HQ.out, HF.out, HFQ.out]; rfl, HE1.out, HB1.out⟩
                case measure => simp [intOf]; omega
              | false =>
                have HFQ := Lib.hid hfq
                clear hfq
                go_wp2
                refine bodyPost_ret (results_tmp rfl _ _ _) rfl ?_
                exact ⟨by rw [formL_false HQ.out HFQ.out]; rfl, HE1.out⟩
            · obtain rfl : j = ps.length := by omega
              rw [List.take_length] at HF
              go_wp2
              refine bodyPost_ret (results_tmp rfl _ _ _) rfl ?_
              exact ⟨by rw [HF.out]; rfl, HE.out⟩
    have h456 : k = 4 ∨ k = 5 ∨ k = 6 := by omega
    have hf : formB (.node k m ps) = (decide (ps.length = 1) && formL ps) := by rw [formB, if_neg h01, if_neg h23, if_pos h456]
    rw [hf]
    clear hf h01 h23
    by_cases hl : ps.length = 1
    · rw [decide_eq_true hl, Bool.true_and]
      have hl1 : ((ps.length : Int) != 1) = false := by rw [hl]; rfl
      have H := Lib.hid hl
      clear hl
      rcases h456 with rfl | rfl | rfl
      · go_enter Try.func57, Try.ntmps57
        go_wp2
        go_loopw [63] (fun x wr => ∃ j : Nat, j ≤ ps.length ∧ x = .int .i64 j ∧ formL (ps.take j) = true ∧ Ext w wr ∧ wr.heap[w.heap.size]? = some (.cells #[.int .i64 4, .int .i64 m, .slice A ps.length c] 102 (0, 0))) (fun x _ => ps.length - (intOf x).toNat)
        case atStart => exact ⟨0, Nat.zero_le _, rfl, by simp [formL], ext_alloc (ext_refl _) _, heap_alloc_new _ _⟩
        case round =>
          rename World => wo
          obtain ⟨j, hj, rfl, hf, hE, hb⟩ := hrel
          have HE := Lib.hid hE
          have HB := Lib.hid hb
          have HF := Lib.hid hf
          have p2 : wo.cell? ⟨w.heap.size, 2, none⟩ = some (.slice A ps.length c) := block_cell hb 2
          have lb := block_lt hb
          clear hE hb hf q1 q2 q3 lrb
          by_cases hlt : j < ps.length
          · have hji : (j : Int) < (ps.length : Int) := by omega
            have hj0 : (0 : Int) ≤ (j : Int) := by omega
            obtain ⟨q, hq⟩ : ∃ q, ps[j]? = some q := ⟨_, List.getElem?_eq_getElem hlt⟩
            have HQ := Lib.hid hq
            have hqs := sizeL_mem (List.mem_of_getElem? hq)
            obtain ⟨g, y, hA, lg, hgy, hyn, hly⟩ := HCH.out j q hq
            subst hA
            have HLY := Lib.hid (lst_ext hly HE.out)
            have hgy' := (ext_cell HE.out _ _ lg).trans hgy
            have lg' := ext_lt HE.out lg
            clear hq hly hgy lg
            go_wp2_with fail
            refine (HD.out q rb n y _ (by omega) hn HLY.out).mono ?_
            rintro e w1 ⟨rfl, hE1⟩
            have HE1 := Lib.hid (ext_trans HE.out hE1)
            have HB1 := Lib.hid ((ext_block hE1 lb).trans HB.out)
            clear hE1 hgy' lg' p2 lb
            cases hfq : formB q with
            | true =>
              have HFQ := Lib.hid hfq
              clear hfq
              go_wp2
              go_roundw
              case rel => exact ⟨j + 1, by omega, by go_num, by rw [formL_take HQ.out, HF.out, HFQ.out]; rfl, HE1.out, HB1.out⟩
              case measure => simp [intOf]; omega
            | false =>
              have HFQ := Lib.hid hfq
              clear hfq
              go_wp2
              refine bodyPost_ret (results_tmp rfl _ _ _) rfl ?_
              exact ⟨by rw [formL_false HQ.out HFQ.out]; rfl, HE1.out⟩
          · obtain rfl : j = ps.length := by omega
            rw [List.take_length] at HF
            go_wp2
            refine bodyPost_ret (results_tmp rfl _ _ _) rfl ?_
            exact ⟨by rw [HF.out]; rfl, HE.out⟩
      · go_enter Try.func57, Try.ntmps57
        go_wp2
        go_loopw [63] (fun x wr => ∃ j : Nat, j ≤ ps.length ∧ x = .int .i64 j ∧ formL (ps.take j) = true ∧ Ext w wr ∧ wr.heap[w.heap.size]? = some (.cells #[.int .i64 5, .int .i64 m, .slice A ps.length c] 102 (0, 0))) (fun x _ => ps.length - (intOf x).toNat)
        case atStart => exact ⟨0, Nat.zero_le _, rfl, by simp [formL], ext_alloc (ext_refl _) _, heap_alloc_new _ _⟩
        case round =>
          rename World => wo
          obtain ⟨j, hj, rfl, hf, hE, hb⟩ := hrel
          have HE := Lib.hid hE
          have HB := Lib.hid hb
          have HF := Lib.hid hf
          have p2 : wo.cell? ⟨w.heap.size, 2, none⟩ = some (.slice A ps.length c) := block_cell hb 2
          have lb := block_lt hb
          clear hE hb hf q1 q2 q3 lrb
          by_cases hlt : j < ps.length
          · have hji : (j : Int) < (ps.length : Int) := by omega
            have hj0 : (0 : Int) ≤ (j : Int) := by omega
            obtain ⟨q, hq⟩ : ∃ q, ps[j]? = some q := ⟨_, List.getElem?_eq_getElem hlt⟩
            have HQ := Lib.hid hq
            have hqs := sizeL_mem (List.mem_of_getElem? hq)
            obtain ⟨g, y, hA, lg, hgy, hyn, hly⟩ := HCH.out j q hq
            subst hA
            have HLY := Lib.hid (lst_ext hly HE.out)
            have hgy' := (ext_cell HE.out _ _ lg).trans hgy
            have lg' := ext_lt HE.out lg
            clear hq hly hgy lg
            go_wp2_with fail
            refine (HD.out q rb n y _ (by omega) hn HLY.out).mono ?_
            rintro e w1 ⟨rfl, hE1⟩
            have HE1 := Lib.hid (ext_trans HE.out hE1)
            have HB1 := Lib.hid ((ext_block hE1 lb).trans HB.out)
            clear hE1 hgy' lg' p2 lb
            cases hfq : formB q with
            | true =>
              have HFQ := Lib.hid hfq
              clear hfq
              go_wp2
              go_roundw
              case rel => exact ⟨j + 1, by omega, by go_num, by rw [formL_take HQ.out, HF.out, HFQ.out]; rfl, HE1.out, HB1.out⟩
              case measure => simp [intOf]; omega
            | false =>
              have HFQ := Lib.hid hfq
              clear hfq
              go_wp2
              refine bodyPost_ret (results_tmp rfl _ _ _) rfl ?_
              exact ⟨by rw [formL_false HQ.out HFQ.out]; rfl, HE1.out⟩
          · obtain rfl : j = ps.length := by omega
            rw [List.take_length] at HF
            go_wp2
            refine bodyPost_ret (results_tmp rfl _ _ _) rfl ?_
            exact ⟨by rw [HF.out]; rfl, HE.out⟩
      · go_enter Try.func57, Try.ntmps57
        go_wp2
        go_loopw [63] (fun x wr => ∃ j : Nat, j ≤ ps.length ∧ x = .int .i64 j ∧ formL (ps.take j) = true ∧ Ext w wr ∧ wr.heap[w.heap.size]? = some (.cells #[.int .i64 6, .int .i64 m, .slice A ps.length c] 102 (0, 0))) (fun x _ => ps.length - (intOf x).toNat)
        case atStart => exact ⟨0, Nat.zero_le _, rfl, by simp [formL], ext_alloc (ext_refl _) _, heap_alloc_new _ _⟩
        case round =>
          rename World => wo
          obtain ⟨j, hj, rfl, hf, hE, hb⟩ := hrel
          have HE := Lib.hid hE
          have HB := Lib.hid hb
          have HF := Lib.hid hf
          have p2 : wo.cell? ⟨w.heap.size, 2, none⟩ = some (.slice A ps.length c) := block_cell hb 2
          have lb := block_lt hb
          clear hE hb hf q1 q2 q3 lrb
          by_cases hlt : j < ps.length
          · have hji : (j : Int) < (ps.length : Int) := by omega
            have hj0 : (0 : Int) ≤ (j : Int) := by omega
            obtain ⟨q, hq⟩ : ∃ q, ps[j]? = some q := ⟨_, List.getElem?_eq_getElem hlt⟩
            have HQ := Lib.hid hq
            have hqs := sizeL_mem (List.mem_of_getElem? hq)
            obtain ⟨g, y, hA, lg, hgy, hyn, hly⟩ := HCH.out j q hq
            subst hA
            have HLY := Lib.hid (lst_ext hly HE.out)
            have hgy' := (ext_cell HE.out _ _ lg).trans hgy
            have lg' := ext_lt HE.out lg
            clear hq hly hgy lg
            go_wp2_with fail
            refine (HD.out q rb n y _ (by omega) hn HLY.out).mono ?_
            rintro e w1 ⟨rfl, hE1⟩
            have HE1 := Lib.hid (ext_trans HE.out hE1)
            have HB1 := Lib.hid ((ext_block hE1 lb).trans HB.out)
            clear hE1 hgy' lg' p2 lb
            cases hfq : formB q with
            | true =>
              have HFQ := Lib.hid hfq
              clear hfq
              go_wp2
              go_roundw
              case rel => exact ⟨j + 1, by omega, by go_num, by rw [formL_take HQ.out, HF.out, HFQ.out]; rfl, HE1.out, HB1.out⟩
              case measure => simp [intOf]; omega
            | false =>
              have HFQ := Lib.hid hfq
              clear hfq
              go_wp2
              refine bodyPost_ret (results_tmp rfl _ _ _) rfl ?_
              exact ⟨by rw [formL_false HQ.out HFQ.out]; rfl, HE1.out⟩
          · obtain rfl : j = ps.length := by omega
            rw [List.take_length] at HF
            go_wp2
            refine bodyPost_ret (results_tmp rfl _ _ _) rfl ?_
            exact ⟨by rw [HF.out]; rfl, HE.out⟩
    · rw [decide_eq_false hl, Bool.false_and]
      have hl1 : ((ps.length : Int) != 1) = true := by rw [bne_iff_ne]; omega
      clear hl
      rcases h456 with rfl | rfl | rfl
      all_goals
        go_enter Try.func57, Try.ntmps57
        go_wp2
        refine bodyPost_ret (results_tmp rfl _ _ _) rfl ?_
        exact ⟨rfl, ext_alloc (ext_refl _) _⟩
theorem rform_all : ∀ N : Nat, N ≤ 100000 → RFormAt N
  | 0, _ => fun t rb n x w hN => by have := sizeT_pos t; omega
  | N + 1, h => rform_step (rform_all N (by omega)) (by omega)
end Go.Proofs.Ytiabmdboacpmcaa
