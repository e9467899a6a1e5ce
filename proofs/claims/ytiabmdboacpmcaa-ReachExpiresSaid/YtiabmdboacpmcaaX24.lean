/- Texts joined: Px Pz Qa Qd Qe. -/
import Derived.Test.YtiabmdboacpmcaaX23
/- The document's Check. -/
namespace Go.Proofs.Ytiabmdboacpmcaa
open Go Go.RowKit Go.Sort
set_option maxHeartbeats 800000

mutual
def depthT : Tr → Nat
  | .node _ _ ps => 1 + depthL ps
def depthL : List Tr → Nat
  | [] => 0
  | p :: r => max (depthT p) (depthL r)
end
mutual
theorem deep_depth : ∀ (t : Tr) (l : Nat), deepB t (l : Int) = decide (depthT t ≤ l)
  | .node k n ps, l => by
    rw [deepB, depthT]
    cases l with
    | zero => simp
    | succ l =>
      rw [show ((l + 1 : Nat) : Int) - 1 = (l : Int) by omega, deepL_depth ps l]
      rw [Bool.eq_iff_iff]
      simp
      omega
theorem deepL_depth : ∀ (ps : List Tr) (l : Nat), deepL ps (l : Int) = decide (depthL ps ≤ l)
  | [], l => by simp [deepL, depthL]
  | p :: r, l => by
    rw [deepL, depthL, deep_depth p l, deepL_depth r l]
    rw [Bool.eq_iff_iff]
    simp
    omega
end
mutual
theorem depth_size : ∀ (t : Tr), depthT t ≤ sizeT t
  | .node k n ps => by rw [depthT, sizeT]; have := depthL_size ps; omega
theorem depthL_size : ∀ (ps : List Tr), depthL ps ≤ sizeL ps
  | [] => by simp [depthL]
  | p :: r => by rw [depthL, sizeL]; have := depth_size p; have := depthL_size r; omega
end
theorem depthL_take {ps : List Tr} {j : Nat} {q : Tr} (h : ps[j]? = some q) : depthL (ps.take (j + 1)) = max (depthL (ps.take j)) (depthT q) := by
  induction ps generalizing j with
  | nil => simp at h
  | cons p r ih =>
    cases j with
    | zero =>
      simp only [List.getElem?_cons_zero, Option.some.injEq] at h
      subst h
      simp [depthL]
    | succ j =>
      have := ih (j := j) (by simpa using h)
      rw [List.take_succ_cons, depthL, this, List.take_succ_cons, depthL]
      omega

/-- a document's path at a place of its list -/
def Lst (w : World) (rb n : Nat) (t : Tr) (x : Nat) : Prop := ∃ lo H, H ≤ w.heap.size ∧ TR w rb n lo H t x
theorem lst_ext {w w' : World} {rb n x : Nat} {t : Tr} (h : Lst w rb n t x) (hE : Ext w w') : Lst w' rb n t x := by
  obtain ⟨lo, H, hH, hT⟩ := h
  have hrb : rb < w.heap.size := by
    cases t with
    | node k m ps =>
      rw [TR] at hT
      exact World.block_lt_of_cell? _ _ hT.2.1
  exact ⟨lo, H, Nat.le_trans hH (ext_size hE), TR_same (i := 0) (fun g o _ hg => ext_cell hE _ _ (by omega)) (fun o _ => ext_cell hE _ _ hrb) (Nat.le_refl _) t x (Nat.zero_le _) hT⟩
theorem lst_node {w : World} {rb n x : Nat} {k m : Int} {ps : List Tr} (h : Lst w rb n (.node k m ps) x) : x < n ∧ rb < w.heap.size ∧ w.cell? ⟨rb, x * 3, none⟩ = some (.int .i64 k) ∧ w.cell? ⟨rb, x * 3 + 1, none⟩ = some (.int .i64 m) ∧ ∃ A c, w.cell? ⟨rb, x * 3 + 2, none⟩ = some (.slice A ps.length c) ∧ ps.length ≤ c ∧ ∀ (j : Nat) (q : Tr), ps[j]? = some q → ∃ (g y : Nat), A = some ⟨g, 0, none⟩ ∧ g < w.heap.size ∧ w.cell? ⟨g, j, none⟩ = some (.int .i64 (y : Int)) ∧ y < n ∧ Lst w rb n q y := by
  obtain ⟨lo, H, hH, hT⟩ := h
  rw [TR] at hT
  obtain ⟨h0, h1, h2, A, c, h3, hc, h4⟩ := hT
  refine ⟨h0, World.block_lt_of_cell? _ _ h1, h1, h2, A, c, h3, hc, fun j q hq => ?_⟩
  obtain ⟨g, h5, _, h7, h8⟩ := h4 (fun e => by rw [e] at hq; simp at hq)
  obtain ⟨y, _, h10, h11⟩ := LR_at h8 hq
  rw [Nat.zero_add] at h10
  refine ⟨g, y, h5, by omega, h10, ?_, lo, H, hH, h11⟩
  cases q with
  | node k' m' qs => rw [TR] at h11; exact h11.1

def RSizeAt (N : Nat) : Prop := ∀ (t : Tr) (rb n x : Nat) (w : World), sizeT t ≤ N → n ≤ 100 → Lst w rb n t x → Calls Try.prog 56 #[.slice (some ⟨rb, 0, none⟩) n n, .int .i64 (x : Int)] w fun e w' => e = .returned (.int .i64 (sizeT t)) ∧ Ext w w'
theorem rsize_step {N : Nat} (hd : RSizeAt N) (hN1 : N ≤ 100000) : RSizeAt (N + 1) := by
  intro t rb n x w hN hn hl
  cases t with
  | node k m ps =>
    rw [sizeT] at hN ⊢
    have hlen := sizeL_len ps
    have HD := Lib.hid hd
    have HL := Lib.hid hl
    obtain ⟨hx, lrb, -, -, A, c, h3, hc, -⟩ := lst_node hl
    have hxi : (x : Int) < (n : Int) := by omega
    have hx0 : (0 : Int) ≤ (x : Int) := by omega
    have q3 := h3
    have H3 := Lib.hid h3
    clear hd hl h3
    go_enter Try.func56, Try.ntmps56
    go_wp2
    go_loopw [13, 5] (fun x y wr => ∃ j : Nat, j ≤ ps.length ∧ x = .int .i64 j ∧ y = .int .i64 ((1 + sizeL (ps.take j) : Nat) : Int) ∧ Ext w wr) (fun x _ _ => ps.length - (intOf x).toNat)
    case atStart => exact ⟨0, Nat.zero_le _, rfl, by simp [sizeL], ext_refl _⟩
    case round =>
      rename World => wo
      obtain ⟨j, hj, rfl, rfl, hE⟩ := hrel
      have HE := Lib.hid hE
      clear hE q3 lrb
      by_cases hlt : j < ps.length
      · have hji : (j : Int) < (ps.length : Int) := by omega
        have hj0 : (0 : Int) ≤ (j : Int) := by omega
        obtain ⟨q, hq⟩ : ∃ q, ps[j]? = some q := ⟨_, List.getElem?_eq_getElem hlt⟩
        have hst := sizeL_take hq
        have hle := sizeL_le_take ps (j + 1)
        have HST := Lib.hid hst
        obtain ⟨m', hm⟩ : ∃ m', m' = 1 + sizeL (ps.take j) := ⟨_, rfl⟩
        have hm1 : m' + sizeT q ≤ N + 1 := by omega
        have hm0 : 1 ≤ m' := by omega
        rw [← hm]
        have HM := Lib.hid hm
        obtain ⟨_, lrb, -, -, A', c', h3, hc', hch⟩ := lst_node (lst_ext HL.out HE.out)
        have h3' := (ext_cell HE.out _ _ (World.block_lt_of_cell? _ _ H3.out)).trans H3.out
        rw [h3] at h3'
        simp only [Option.some.injEq, Value.slice.injEq] at h3'
        obtain ⟨rfl, -, rfl⟩ := h3'
        obtain ⟨g, y, hA, lg, hgy, hyn, hly⟩ := hch j q hq
        subst hA
        have HLY := Lib.hid hly
        clear hq hst hm hle hch hly
        go_wp2_with fail
        refine (HD.out q rb n y _ (by omega) hn HLY.out).mono ?_
        rintro e w1 ⟨rfl, hE1⟩
        have HE1 := Lib.hid (ext_trans HE.out hE1)
        clear hE1 h3 lrb hgy lg
        go_wp2
        go_roundw
        case rel => exact ⟨j + 1, by omega, by go_num, by rw [HST.out, HM.out]; congr 1; push_cast; omega, HE1.out⟩
        case measure => simp [intOf]; omega
      · obtain rfl : j = ps.length := by omega
        rw [List.take_length]
        go_wp2
        refine bodyPost_ret (results_tmp rfl _ _ _) rfl ?_
        exact ⟨rfl, HE.out⟩
theorem rsize_all : ∀ N : Nat, N ≤ 100000 → RSizeAt N
  | 0, _ => fun t rb n x w hN => by have := sizeT_pos t; omega
  | N + 1, h => rsize_step (rsize_all N (by omega)) (by omega)

theorem depthL_le_take (ps : List Tr) (j : Nat) : depthL (ps.take j) ≤ sizeL ps := Nat.le_trans (depthL_size _) (sizeL_le_take ps j)
def RDepthAt (N : Nat) : Prop := ∀ (t : Tr) (rb n x : Nat) (w : World), sizeT t ≤ N → n ≤ 100 → Lst w rb n t x → Calls Try.prog 55 #[.slice (some ⟨rb, 0, none⟩) n n, .int .i64 (x : Int)] w fun e w' => e = .returned (.int .i64 (depthT t)) ∧ Ext w w'
theorem rdepth_step {N : Nat} (hd : RDepthAt N) (hN1 : N ≤ 100000) : RDepthAt (N + 1) := by
  intro t rb n x w hN hn hl
  cases t with
  | node k m ps =>
    rw [sizeT] at hN
    rw [depthT]
    have hlen := sizeL_len ps
    have HD := Lib.hid hd
    have HL := Lib.hid hl
    obtain ⟨hx, lrb, -, -, A, c, h3, hc, -⟩ := lst_node hl
    have hxi : (x : Int) < (n : Int) := by omega
    have hx0 : (0 : Int) ≤ (x : Int) := by omega
    have q3 := h3
    have H3 := Lib.hid h3
    clear hd hl h3
    go_enter Try.func55, Try.ntmps55
    go_wp2
    go_loopw [14, 5] (fun x y wr => ∃ j : Nat, j ≤ ps.length ∧ x = .int .i64 j ∧ y = .int .i64 ((1 + depthL (ps.take j) : Nat) : Int) ∧ Ext w wr) (fun x _ _ => ps.length - (intOf x).toNat)
    case atStart => exact ⟨0, Nat.zero_le _, rfl, by simp [depthL], ext_refl _⟩
    case round =>
      rename World => wo
      obtain ⟨j, hj, rfl, rfl, hE⟩ := hrel
      have HE := Lib.hid hE
      clear hE q3 lrb
      by_cases hlt : j < ps.length
      · have hji : (j : Int) < (ps.length : Int) := by omega
        have hj0 : (0 : Int) ≤ (j : Int) := by omega
        obtain ⟨q, hq⟩ : ∃ q, ps[j]? = some q := ⟨_, List.getElem?_eq_getElem hlt⟩
        have hst := depthL_take hq
        have hle := depthL_le_take ps j
        have hqs := sizeL_mem (List.mem_of_getElem? hq)
        have hqd := depth_size q
        have HST := Lib.hid hst
        obtain ⟨dj, hdj⟩ : ∃ dj, dj = depthL (ps.take j) := ⟨_, rfl⟩
        obtain ⟨dq, hdq⟩ : ∃ dq, dq = depthT q := ⟨_, rfl⟩
        rw [← hdj] at hle
        rw [← hdq] at hqd
        rw [← hdj]
        have HDJ := Lib.hid hdj
        have HDQ := Lib.hid hdq
        obtain ⟨_, lrb, -, -, A', c', h3, hc', hch⟩ := lst_node (lst_ext HL.out HE.out)
        have h3' := (ext_cell HE.out _ _ (World.block_lt_of_cell? _ _ H3.out)).trans H3.out
        rw [h3] at h3'
        simp only [Option.some.injEq, Value.slice.injEq] at h3'
        obtain ⟨rfl, -, rfl⟩ := h3'
        obtain ⟨g, y, hA, lg, hgy, hyn, hly⟩ := hch j q hq
        subst hA
        have HLY := Lib.hid hly
        clear hq hst hdj hdq hch hly
        go_wp2_with fail
        refine (HD.out q rb n y _ (by omega) hn HLY.out).mono ?_
        rintro e w1 ⟨rfl, hE1⟩
        rw [← HDQ.out]
        have HE1 := Lib.hid (ext_trans HE.out hE1)
        clear hE1 h3 lrb hgy lg
        by_cases hgt : dj < dq
        · have hgi : (1 + (dj : Int)) < 1 + (dq : Int) := by omega
          go_wp2
          go_roundw
          case rel => exact ⟨j + 1, by omega, by go_num, by rw [HST.out, ← HDJ.out, ← HDQ.out]; congr 1; push_cast; omega, HE1.out⟩
          case measure => simp [intOf]; omega
        · have hgi : ¬ (1 + (dj : Int)) < 1 + (dq : Int) := by omega
          go_wp2
          go_roundw
          case rel => exact ⟨j + 1, by omega, by go_num, by rw [HST.out, ← HDJ.out, ← HDQ.out]; congr 1; push_cast; omega, HE1.out⟩
          case measure => simp [intOf]; omega
      · obtain rfl : j = ps.length := by omega
        rw [List.take_length]
        go_wp2
        refine bodyPost_ret (results_tmp rfl _ _ _) rfl ?_
        exact ⟨rfl, HE.out⟩
theorem rdepth_all : ∀ N : Nat, N ≤ 100000 → RDepthAt N
  | 0, _ => fun t rb n x w hN => by have := sizeT_pos t; omega
  | N + 1, h => rdepth_step (rdepth_all N (by omega)) (by omega)
end Go.Proofs.Ytiabmdboacpmcaa
/- The document's form and Check. -/
namespace Go.Proofs.Ytiabmdboacpmcaa
open Go Go.RowKit Go.Sort
set_option maxHeartbeats 1000000

theorem formL_take {ps : List Tr} {j : Nat} {q : Tr} (h : ps[j]? = some q) : formL (ps.take (j + 1)) = (formL (ps.take j) && formB q) := by
  induction ps generalizing j with
  | nil => simp at h
  | cons p r ih =>
    cases j with
    | zero =>
      simp only [List.getElem?_cons_zero, Option.some.injEq] at h
      subst h
      simp [formL]
    | succ j =>
      have := ih (j := j) (by simpa using h)
      rw [List.take_succ_cons, formL, this, List.take_succ_cons, formL, Bool.and_assoc]
theorem formL_false {ps : List Tr} {j : Nat} {q : Tr} (h : ps[j]? = some q) (hf : formB q = false) : formL ps = false := by
  induction ps generalizing j with
  | nil => simp at h
  | cons p r ih =>
    rw [formL]
    cases j with
    | zero =>
      simp only [List.getElem?_cons_zero, Option.some.injEq] at h
      subst h
      rw [hf]; rfl
    | succ j =>
      rw [ih (j := j) (by simpa using h), Bool.and_false]
def RFormAt (N : Nat) : Prop := ∀ (t : Tr) (rb n x : Nat) (w : World), sizeT t ≤ N → n ≤ 100 → Lst w rb n t x → Calls Try.prog 57 #[.slice (some ⟨rb, 0, none⟩) n n, .int .i64 (x : Int)] w fun e w' => e = .returned (.bool (formB t)) ∧ Ext w w'
theorem rform_step {N : Nat} (hd : RFormAt N) (hN1 : N ≤ 100000) : RFormAt (N + 1) := by
  intro t rb n x w hN hn hl
  cases t with
  | node k m ps =>
    rw [sizeT] at hN
    have hlen := sizeL_len ps
    have HD := Lib.hid hd
    obtain ⟨hx, lrb, q1, q2, A, c, q3, hc, hch⟩ := lst_node hl
    have hxi : (x : Int) < (n : Int) := by omega
    have hx0 : (0 : Int) ≤ (x : Int) := by omega
    have HCH := Lib.hid hch
    clear hd hl hch
    by_cases hlo : k < 0
    · have hf : formB (.node k m ps) = false := by rw [formB, if_neg (by omega), if_neg (by omega), if_neg (by omega)]
      rw [hf]
      clear hf
      go_enter Try.func57, Try.ntmps57
      go_wp2
      refine bodyPost_ret (results_tmp rfl _ _ _) rfl ?_
      exact ⟨rfl, ext_alloc (ext_refl _) _⟩
    by_cases hhi : 6 < k
    · have hf : formB (.node k m ps) = false := by rw [formB, if_neg (by omega), if_neg (by omega), if_neg (by omega)]
      rw [hf]
      clear hf
      go_enter Try.func57, Try.ntmps57
      go_wp2
      refine bodyPost_ret (results_tmp rfl _ _ _) rfl ?_
      exact ⟨rfl, ext_alloc (ext_refl _) _⟩
    by_cases h01 : k = 0 ∨ k = 1
    · have hf : formB (.node k m ps) = (decide (ps = []) && decide (0 ≤ m)) := by rw [formB, if_pos h01]
      rw [hf]
      clear hf
      by_cases hps : ps = []
      · subst hps
        simp only [List.length_nil] at *
        by_cases hm : 0 ≤ m
        · rw [decide_eq_true hm]
          rcases h01 with rfl | rfl
          · go_enter Try.func57, Try.ntmps57
            go_wp2
            go_loopw [63] (fun x wr => x = .int .i64 0 ∧ Ext w wr) (fun _ _ => 0)
            case atStart => exact ⟨rfl, ext_alloc (ext_refl _) _⟩
            case round =>
              obtain ⟨rfl, hE⟩ := hrel
              have HE := Lib.hid hE
              clear hE
              go_wp2
              refine bodyPost_ret (results_tmp rfl _ _ _) rfl ?_
              exact ⟨rfl, HE.out⟩
          · go_enter Try.func57, Try.ntmps57
            go_wp2
            go_loopw [63] (fun x wr => x = .int .i64 0 ∧ Ext w wr) (fun _ _ => 0)
            case atStart => exact ⟨rfl, ext_alloc (ext_refl _) _⟩
            case round =>
              obtain ⟨rfl, hE⟩ := hrel
              have HE := Lib.hid hE
              clear hE
              go_wp2
              refine bodyPost_ret (results_tmp rfl _ _ _) rfl ?_
              exact ⟨rfl, HE.out⟩
        · rw [decide_eq_false hm]
          rcases h01 with rfl | rfl
          all_goals
            go_enter Try.func57, Try.ntmps57
            go_wp2
            refine bodyPost_ret (results_tmp rfl _ _ _) rfl ?_
            exact ⟨rfl, ext_alloc (ext_refl _) _⟩
      · rw [decide_eq_false hps, Bool.false_and]
        have hl0 : (0 : Int) < (ps.length : Int) := by have := List.length_pos_iff.2 hps; omega
        have H := Lib.hid hps
        clear hps
        rcases h01 with rfl | rfl
        all_goals
          go_enter Try.func57, Try.ntmps57
          go_wp2
          refine bodyPost_ret (results_tmp rfl _ _ _) rfl ?_
          exact ⟨rfl, ext_alloc (ext_refl _) _⟩
    by_cases h23 : k = 2 ∨ k = 3
    · have hf : formB (.node k m ps) = (!decide (ps = []) && formL ps) := by rw [formB, if_neg h01, if_pos h23]
      rw [hf]
      clear hf h01
      by_cases hps : ps = []
      · subst hps
        simp only [List.length_nil] at *
        rcases h23 with rfl | rfl
        all_goals
          go_enter Try.func57, Try.ntmps57
          go_wp2
          refine bodyPost_ret (results_tmp rfl _ _ _) rfl ?_
          exact ⟨rfl, ext_alloc (ext_refl _) _⟩
      · rw [decide_eq_false hps, Bool.not_false, Bool.true_and]
        have hl0 : ((ps.length : Int) == 0) = false := by have := List.length_pos_iff.2 hps; rw [beq_eq_false_iff_ne]; omega
        have H := Lib.hid hps
        clear hps
        rcases h23 with rfl | rfl
        · go_enter Try.func57, Try.ntmps57
          go_wp2
          go_loopw [63] (fun x wr => ∃ j : Nat, j ≤ ps.length ∧ x = .int .i64 j ∧ formL (ps.take j) = true ∧ Ext w wr ∧ wr.heap[w.heap.size]? = some (.cells #[.int .i64 2, .int .i64 m, .slice A ps.length c] 102 (0, 0))) (fun x _ => ps.length - (intOf x).toNat)
          case atStart => exact ⟨0, Nat.zero_le _, rfl, by simp [formL], ext_alloc (ext_refl _) _, heap_alloc_new _ _⟩
          case round =>
            rename World => wo
            obtain ⟨j, hj, rfl, hf, hE, hb⟩ := hrel
            have HE := Lib.hid hE
            have HB := Lib.hid hb
            have HF := Lib.hid hf
            have p2 : wo.cell? ⟨w.heap.size, 2, none⟩ = some (.slice A ps.length c) := block_cell hb 2
            have lb := block_lt hb
            clear hE hb hf q1 q2 q3 lrb
            by_cases hlt : j < ps.length
            · have hji : (j : Int) < (ps.length : Int) := by omega
              have hj0 : (0 : Int) ≤ (j : Int) := by omega
              obtain ⟨q, hq⟩ : ∃ q, ps[j]? = some q := ⟨_, List.getElem?_eq_getElem hlt⟩
              have HQ := Lib.hid hq
              have hqs := sizeL_mem (List.mem_of_getElem? hq)
              obtain ⟨g, y, hA, lg, hgy, hyn, hly⟩ := HCH.out j q hq
              subst hA
              have HLY := Lib.hid (lst_ext hly HE.out)
              have hgy' := (ext_cell HE.out _ _ lg).trans hgy
              have lg' := ext_lt HE.out lg
              clear hq hly hgy lg
              go_wp2_with fail
              refine (HD.out q rb n y _ (by omega) hn HLY.out).mono ?_
              rintro e w1 ⟨rfl, hE1⟩
              have HE1 := Lib.hid (ext_trans HE.out hE1)
              have HB1 := Lib.hid ((ext_block hE1 lb).trans HB.out)
              clear hE1 hgy' lg' p2 lb
              cases hfq : formB q with
              | true =>
                have HFQ := Lib.hid hfq
                clear hfq
                go_wp2
                go_roundw
                case rel => exact ⟨j + 1, by omega, by go_num, by rw [formL_take HQ.out, HF.out, HFQ.out]; rfl, HE1.out, HB1.out⟩
                case measure => simp [intOf]; omega
              | false =>
                have HFQ := Lib.hid hfq
                clear hfq
                go_wp2
                refine bodyPost_ret (results_tmp rfl _ _ _) rfl ?_
                exact ⟨by rw [formL_false HQ.out HFQ.out]; rfl, HE1.out⟩
            · obtain rfl : j = ps.length := by omega
              rw [List.take_length] at HF
              go_wp2
              refine bodyPost_ret (results_tmp rfl _ _ _) rfl ?_
              exact ⟨by rw [HF.out]; rfl, HE.out⟩
        · go_enter Try.func57, Try.ntmps57
          go_wp2
          go_loopw [63] (fun x wr => ∃ j : Nat, j ≤ ps.length ∧ x = .int .i64 j ∧ formL (ps.take j) = true ∧ Ext w wr ∧ wr.heap[w.heap.size]? = some (.cells #[.int .i64 3, .int .i64 m, .slice A ps.length c] 102 (0, 0))) (fun x _ => ps.length - (intOf x).toNat)
          case atStart => exact ⟨0, Nat.zero_le _, rfl, by simp [formL], ext_alloc (ext_refl _) _, heap_alloc_new _ _⟩
          case round =>
            rename World => wo
            obtain ⟨j, hj, rfl, hf, hE, hb⟩ := hrel
            have HE := Lib.hid hE
            have HB := Lib.hid hb
            have HF := Lib.hid hf
            have p2 : wo.cell? ⟨w.heap.size, 2, none⟩ = some (.slice A ps.length c) := block_cell hb 2
            have lb := block_lt hb
            clear hE hb hf q1 q2 q3 lrb
            by_cases hlt : j < ps.length
            · have hji : (j : Int) < (ps.length : Int) := by omega
              have hj0 : (0 : Int) ≤ (j : Int) := by omega
              obtain ⟨q, hq⟩ : ∃ q, ps[j]? = some q := ⟨_, List.getElem?_eq_getElem hlt⟩
              have HQ := Lib.hid hq
              have hqs := sizeL_mem (List.mem_of_getElem? hq)
              obtain ⟨g, y, hA, lg, hgy, hyn, hly⟩ := HCH.out j q hq
              subst hA
              have HLY := Lib.hid (lst_ext hly HE.out)
              have hgy' := (ext_cell HE.out _ _ lg).trans hgy
              have lg' := ext_lt HE.out lg
              clear hq hly hgy lg
              go_wp2_with fail
              refine (HD.out q rb n y _ (by omega) hn HLY.out).mono ?_
              rintro e w1 ⟨rfl, hE1⟩
              have HE1 := Lib.hid (ext_trans HE.out hE1)
              have HB1 := Lib.hid ((ext_block hE1 lb).trans HB.out)
              clear hE1 hgy' lg' p2 lb
              cases hfq : formB q with
              | true =>
                have HFQ := Lib.hid hfq
                clear hfq
                go_wp2
                go_roundw
                case rel => exact ⟨j + 1, by omega, by go_num, by rw [formL_take HQ.out, HF.out, HFQ.out]; rfl, HE1.out, HB1.out⟩
                case measure => simp [intOf]; omega
              | false =>
                have HFQ := Lib.hid hfq
                clear hfq
                go_wp2
                refine bodyPost_ret (results_tmp rfl _ _ _) rfl ?_
                exact ⟨by rw [formL_false HQ.out HFQ.out]; rfl, HE1.out⟩
            · obtain rfl : j = ps.length := by omega
              rw [List.take_length] at HF
              go_wp2
              refine bodyPost_ret (results_tmp rfl _ _ _) rfl ?_
              exact ⟨by rw [HF.out]; rfl, HE.out⟩
    have h456 : k = 4 ∨ k = 5 ∨ k = 6 := by omega
    have hf : formB (.node k m ps) = (decide (ps.length = 1) && formL ps) := by rw [formB, if_neg h01, if_neg h23, if_pos h456]
    rw [hf]
    clear hf h01 h23
    by_cases hl : ps.length = 1
    · rw [decide_eq_true hl, Bool.true_and]
      have hl1 : ((ps.length : Int) != 1) = false := by rw [hl]; rfl
      have H := Lib.hid hl
      clear hl
      rcases h456 with rfl | rfl | rfl
      · go_enter Try.func57, Try.ntmps57
        go_wp2
        go_loopw [63] (fun x wr => ∃ j : Nat, j ≤ ps.length ∧ x = .int .i64 j ∧ formL (ps.take j) = true ∧ Ext w wr ∧ wr.heap[w.heap.size]? = some (.cells #[.int .i64 4, .int .i64 m, .slice A ps.length c] 102 (0, 0))) (fun x _ => ps.length - (intOf x).toNat)
        case atStart => exact ⟨0, Nat.zero_le _, rfl, by simp [formL], ext_alloc (ext_refl _) _, heap_alloc_new _ _⟩
        case round =>
          rename World => wo
          obtain ⟨j, hj, rfl, hf, hE, hb⟩ := hrel
          have HE := Lib.hid hE
          have HB := Lib.hid hb
          have HF := Lib.hid hf
          have p2 : wo.cell? ⟨w.heap.size, 2, none⟩ = some (.slice A ps.length c) := block_cell hb 2
          have lb := block_lt hb
          clear hE hb hf q1 q2 q3 lrb
          by_cases hlt : j < ps.length
          · have hji : (j : Int) < (ps.length : Int) := by omega
            have hj0 : (0 : Int) ≤ (j : Int) := by omega
            obtain ⟨q, hq⟩ : ∃ q, ps[j]? = some q := ⟨_, List.getElem?_eq_getElem hlt⟩
            have HQ := Lib.hid hq
            have hqs := sizeL_mem (List.mem_of_getElem? hq)
            obtain ⟨g, y, hA, lg, hgy, hyn, hly⟩ := HCH.out j q hq
            subst hA
            have HLY := Lib.hid (lst_ext hly HE.out)
            have hgy' := (ext_cell HE.out _ _ lg).trans hgy
            have lg' := ext_lt HE.out lg
            clear hq hly hgy lg
            go_wp2_with fail
            refine (HD.out q rb n y _ (by omega) hn HLY.out).mono ?_
            rintro e w1 ⟨rfl, hE1⟩
            have HE1 := Lib.hid (ext_trans HE.out hE1)
            have HB1 := Lib.hid ((ext_block hE1 lb).trans HB.out)
            clear hE1 hgy' lg' p2 lb
            cases hfq : formB q with
            | true =>
              have HFQ := Lib.hid hfq
              clear hfq
              go_wp2
              go_roundw
              case rel => exact ⟨j + 1, by omega, by go_num, by rw [formL_take HQ.out, HF.out, HFQ.out]; rfl, HE1.out, HB1.out⟩
              case measure => simp [intOf]; omega
            | false =>
              have HFQ := Lib.hid hfq
              clear hfq
              go_wp2
              refine bodyPost_ret (results_tmp rfl _ _ _) rfl ?_
              exact ⟨by rw [formL_false HQ.out HFQ.out]; rfl, HE1.out⟩
          · obtain rfl : j = ps.length := by omega
            rw [List.take_length] at HF
            go_wp2
            refine bodyPost_ret (results_tmp rfl _ _ _) rfl ?_
            exact ⟨by rw [HF.out]; rfl, HE.out⟩
      · go_enter Try.func57, Try.ntmps57
        go_wp2
        go_loopw [63] (fun x wr => ∃ j : Nat, j ≤ ps.length ∧ x = .int .i64 j ∧ formL (ps.take j) = true ∧ Ext w wr ∧ wr.heap[w.heap.size]? = some (.cells #[.int .i64 5, .int .i64 m, .slice A ps.length c] 102 (0, 0))) (fun x _ => ps.length - (intOf x).toNat)
        case atStart => exact ⟨0, Nat.zero_le _, rfl, by simp [formL], ext_alloc (ext_refl _) _, heap_alloc_new _ _⟩
        case round =>
          rename World => wo
          obtain ⟨j, hj, rfl, hf, hE, hb⟩ := hrel
          have HE := Lib.hid hE
          have HB := Lib.hid hb
          have HF := Lib.hid hf
          have p2 : wo.cell? ⟨w.heap.size, 2, none⟩ = some (.slice A ps.length c) := block_cell hb 2
          have lb := block_lt hb
          clear hE hb hf q1 q2 q3 lrb
          by_cases hlt : j < ps.length
          · have hji : (j : Int) < (ps.length : Int) := by omega
            have hj0 : (0 : Int) ≤ (j : Int) := by omega
            obtain ⟨q, hq⟩ : ∃ q, ps[j]? = some q := ⟨_, List.getElem?_eq_getElem hlt⟩
            have HQ := Lib.hid hq
            have hqs := sizeL_mem (List.mem_of_getElem? hq)
            obtain ⟨g, y, hA, lg, hgy, hyn, hly⟩ := HCH.out j q hq
            subst hA
            have HLY := Lib.hid (lst_ext hly HE.out)
            have hgy' := (ext_cell HE.out _ _ lg).trans hgy
            have lg' := ext_lt HE.out lg
            clear hq hly hgy lg
            go_wp2_with fail
            refine (HD.out q rb n y _ (by omega) hn HLY.out).mono ?_
            rintro e w1 ⟨rfl, hE1⟩
            have HE1 := Lib.hid (ext_trans HE.out hE1)
            have HB1 := Lib.hid ((ext_block hE1 lb).trans HB.out)
            clear hE1 hgy' lg' p2 lb
            cases hfq : formB q with
            | true =>
              have HFQ := Lib.hid hfq
              clear hfq
              go_wp2
              go_roundw
              case rel => exact ⟨j + 1, by omega, by go_num, by rw [formL_take HQ.out, HF.out, HFQ.out]; rfl, HE1.out, HB1.out⟩
              case measure => simp [intOf]; omega
            | false =>
              have HFQ := Lib.hid hfq
              clear hfq
              go_wp2
              refine bodyPost_ret (results_tmp rfl _ _ _) rfl ?_
              exact ⟨by rw [formL_false HQ.out HFQ.out]; rfl, HE1.out⟩
          · obtain rfl : j = ps.length := by omega
            rw [List.take_length] at HF
            go_wp2
            refine bodyPost_ret (results_tmp rfl _ _ _) rfl ?_
            exact ⟨by rw [HF.out]; rfl, HE.out⟩
      · go_enter Try.func57, Try.ntmps57
        go_wp2
        go_loopw [63] (fun x wr => ∃ j : Nat, j ≤ ps.length ∧ x = .int .i64 j ∧ formL (ps.take j) = true ∧ Ext w wr ∧ wr.heap[w.heap.size]? = some (.cells #[.int .i64 6, .int .i64 m, .slice A ps.length c] 102 (0, 0))) (fun x _ => ps.length - (intOf x).toNat)
        case atStart => exact ⟨0, Nat.zero_le _, rfl, by simp [formL], ext_alloc (ext_refl _) _, heap_alloc_new _ _⟩
        case round =>
          rename World => wo
          obtain ⟨j, hj, rfl, hf, hE, hb⟩ := hrel
          have HE := Lib.hid hE
          have HB := Lib.hid hb
          have HF := Lib.hid hf
          have p2 : wo.cell? ⟨w.heap.size, 2, none⟩ = some (.slice A ps.length c) := block_cell hb 2
          have lb := block_lt hb
          clear hE hb hf q1 q2 q3 lrb
          by_cases hlt : j < ps.length
          · have hji : (j : Int) < (ps.length : Int) := by omega
            have hj0 : (0 : Int) ≤ (j : Int) := by omega
            obtain ⟨q, hq⟩ : ∃ q, ps[j]? = some q := ⟨_, List.getElem?_eq_getElem hlt⟩
            have HQ := Lib.hid hq
            have hqs := sizeL_mem (List.mem_of_getElem? hq)
            obtain ⟨g, y, hA, lg, hgy, hyn, hly⟩ := HCH.out j q hq
            subst hA
            have HLY := Lib.hid (lst_ext hly HE.out)
            have hgy' := (ext_cell HE.out _ _ lg).trans hgy
            have lg' := ext_lt HE.out lg
            clear hq hly hgy lg
            go_wp2_with fail
            refine (HD.out q rb n y _ (by omega) hn HLY.out).mono ?_
            rintro e w1 ⟨rfl, hE1⟩
            have HE1 := Lib.hid (ext_trans HE.out hE1)
            have HB1 := Lib.hid ((ext_block hE1 lb).trans HB.out)
            clear hE1 hgy' lg' p2 lb
            cases hfq : formB q with
            | true =>
              have HFQ := Lib.hid hfq
              clear hfq
              go_wp2
              go_roundw
              case rel => exact ⟨j + 1, by omega, by go_num, by rw [formL_take HQ.out, HF.out, HFQ.out]; rfl, HE1.out, HB1.out⟩
              case measure => simp [intOf]; omega
            | false =>
              have HFQ := Lib.hid hfq
              clear hfq
              go_wp2
              refine bodyPost_ret (results_tmp rfl _ _ _) rfl ?_
              exact ⟨by rw [formL_false HQ.out HFQ.out]; rfl, HE1.out⟩
          · obtain rfl : j = ps.length := by omega
            rw [List.take_length] at HF
            go_wp2
            refine bodyPost_ret (results_tmp rfl _ _ _) rfl ?_
            exact ⟨by rw [HF.out]; rfl, HE.out⟩
    · rw [decide_eq_false hl, Bool.false_and]
      have hl1 : ((ps.length : Int) != 1) = true := by rw [bne_iff_ne]; omega
      clear hl
      rcases h456 with rfl | rfl | rfl
      all_goals
        go_enter Try.func57, Try.ntmps57
        go_wp2
        refine bodyPost_ret (results_tmp rfl _ _ _) rfl ?_
        exact ⟨rfl, ext_alloc (ext_refl _) _⟩
theorem rform_all : ∀ N : Nat, N ≤ 100000 → RFormAt N
  | 0, _ => fun t rb n x w hN => by have := sizeT_pos t; omega
  | N + 1, h => rform_step (rform_all N (by omega)) (by omega)
end Go.Proofs.Ytiabmdboacpmcaa
/- The document's Check. -/
namespace Go.Proofs.Ytiabmdboacpmcaa
open Go Go.RowKit Go.Sort
set_option maxHeartbeats 1000000

theorem rcheck_any (t : Tr) (rb n x : Nat) (w : World) (hN : sizeT t ≤ 100000) (hn : n ≤ 100) (hl : Lst w rb n t x) : Calls Try.prog 21 #[.slice (some ⟨rb, 0, none⟩) n n, .int .i64 (x : Int)] w fun e w' => e = .returned (.int .i64 (chk t)) ∧ Ext w w' := by
  have HL := Lib.hid hl
  have HN := Lib.hid hN
  have HC := Lib.hid (show chk t = if deepB t 40 then if 200 < sizeT t then 13 else if formB t then 0 else 1 else 15 from rfl)
  have hdd := deep_depth t 40
  have hds := depth_size t
  obtain ⟨dq, hdq⟩ : ∃ dq, dq = depthT t := ⟨_, rfl⟩
  obtain ⟨sz, hsz⟩ : ∃ sz, sz = sizeT t := ⟨_, rfl⟩
  rw [← hdq] at hdd hds
  rw [← hsz] at hds hN HC
  have HDQ := Lib.hid hdq
  have HSZ := Lib.hid hsz
  have HDD := Lib.hid hdd
  clear hdq hsz hdd hl
  go_enter Try.func21, Try.ntmps21
  go_wp2_with fail
  refine (rdepth_all 100000 (Nat.le_refl _) t rb n x w HN.out hn HL.out).mono ?_
  rintro e w1 ⟨rfl, hE1⟩
  rw [← HDQ.out]
  have HE1 := Lib.hid hE1
  clear hE1
  by_cases hd : 40 < dq
  · have hdi : (40 : Int) < (dq : Int) := by omega
    have hc := Lib.hid (show chk t = 15 by rw [HC.out, show deepB t 40 = false from (HDD.out.trans (decide_eq_false (by omega)))]; rfl)
    go_wp2
    refine bodyPost_ret (results_tmp rfl _ _ _) rfl ?_
    exact ⟨by rw [hc.out]; rfl, HE1.out⟩
  · have hdi : ¬ (40 : Int) < (dq : Int) := by omega
    have hdt := Lib.hid (show deepB t 40 = true from (HDD.out.trans (decide_eq_true (by omega))))
    go_wp2_with fail
    refine (rsize_all 100000 (Nat.le_refl _) t rb n x w1 HN.out hn (lst_ext HL.out HE1.out)).mono ?_
    rintro e w2 ⟨rfl, hE2⟩
    rw [← HSZ.out]
    have HE2 := Lib.hid (ext_trans HE1.out hE2)
    clear hE2
    by_cases hs : 200 < sz
    · have hsi : (200 : Int) < (sz : Int) := by omega
      have hc := Lib.hid (show chk t = 13 by rw [HC.out, hdt.out, if_pos rfl, if_pos hs])
      go_wp2
      refine bodyPost_ret (results_tmp rfl _ _ _) rfl ?_
      exact ⟨by rw [hc.out]; rfl, HE2.out⟩
    · have hsi : ¬ (200 : Int) < (sz : Int) := by omega
      have hc0 := Lib.hid (show chk t = if formB t then 0 else 1 by rw [HC.out, hdt.out, if_pos rfl, if_neg hs])
      go_wp2_with fail
      refine (rform_all 100000 (Nat.le_refl _) t rb n x w2 HN.out hn (lst_ext HL.out HE2.out)).mono ?_
      rintro e w3 ⟨rfl, hE3⟩
      have HE3 := Lib.hid (ext_trans HE2.out hE3)
      clear hE3
      cases hf : formB t with
      | true =>
        have hc := Lib.hid (show chk t = 0 by rw [hc0.out, hf]; rfl)
        clear hf
        go_wp2
        refine bodyPost_ret (results_tmp rfl _ _ _) rfl ?_
        exact ⟨by rw [hc.out]; rfl, HE3.out⟩
      | false =>
        have hc := Lib.hid (show chk t = 1 by rw [hc0.out, hf]; rfl)
        clear hf
        go_wp2
        refine bodyPost_ret (results_tmp rfl _ _ _) rfl ?_
        exact ⟨by rw [hc.out]; rfl, HE3.out⟩
end Go.Proofs.Ytiabmdboacpmcaa
/- Plain law: the words of a path as the document parts them; a path turned. -/
namespace Go.Proofs.Ytiabmdboacpmcaa
open Go Go.RowKit Go.Sort

theorem starL_one {A : List Sy → Prop} {u : List Sy} (h : A u) : StarL A u := by
  have := StarL.cons h (StarL.nil (A := A))
  rwa [List.append_nil] at this
theorem starL_add {A : List Sy → Prop} {u v : List Sy} (h : StarL A u) (k : StarL A v) : StarL A (u ++ v) := by
  induction h with
  | nil => exact k
  | cons ha _ ih => rw [List.append_assoc]; exact .cons ha ih
theorem starL_mono {A B : List Sy → Prop} (hAB : ∀ w, A w → B w) {u : List Sy} (h : StarL A u) : StarL B u := by
  induction h with
  | nil => exact .nil
  | cons ha _ ih => exact .cons (hAB _ ha) ih
theorem starL_first {A : List Sy → Prop} {w : List Sy} (h : StarL A w) : w ≠ [] → ∃ u v, w = u ++ v ∧ u ≠ [] ∧ A u ∧ StarL A v := by
  induction h with
  | nil => intro h; exact absurd rfl h
  | @cons u v ha hv ih =>
    intro hne
    by_cases hu : u = []
    · subst hu
      rw [List.nil_append] at hne
      obtain ⟨u', v', h1, h2, h3, h4⟩ := ih hne
      exact ⟨u', v', by rw [List.nil_append]; exact h1, h2, h3, h4⟩
    · exact ⟨u, v, rfl, hu, ha, hv⟩
theorem starL_cut {A : List Sy → Prop} {w : List Sy} (hw : w ≠ []) : StarL A w ↔ ∃ k, 1 ≤ k ∧ k ≤ w.length ∧ A (w.take k) ∧ (k = w.length ∨ StarL A (w.drop k)) := by
  constructor
  · intro h
    obtain ⟨u, v, rfl, hu, ha, hv⟩ := starL_first h hw
    have := List.length_pos_iff.2 hu
    refine ⟨u.length, by omega, by rw [List.length_append]; omega, by rw [List.take_left]; exact ha, .inr (by rw [List.drop_left]; exact hv)⟩
  · rintro ⟨k, _, hk, ha, hv⟩
    rw [← List.take_append_drop k w]
    refine .cons ha ?_
    rcases hv with h | h
    · rw [h, List.drop_length]; exact .nil
    · exact h
theorem plusL_cut {A : List Sy → Prop} {w : List Sy} (hw : w ≠ []) : (∃ u v, w = u ++ v ∧ A u ∧ StarL A v) ↔ ∃ k, 1 ≤ k ∧ k ≤ w.length ∧ A (w.take k) ∧ (k = w.length ∨ ∃ u v, w.drop k = u ++ v ∧ A u ∧ StarL A v) := by
  constructor
  · rintro ⟨u, v, rfl, ha, hv⟩
    have hst : StarL A (u ++ v) := .cons ha hv
    obtain ⟨u', v', h1, hu, ha', hv'⟩ := starL_first hst hw
    have := List.length_pos_iff.2 hu
    rw [h1]
    refine ⟨u'.length, by omega, by rw [List.length_append]; omega, by rw [List.take_left]; exact ha', ?_⟩
    rw [List.drop_left, List.length_append]
    by_cases hv0 : v' = []
    · left; rw [hv0]; simp
    · right
      obtain ⟨a, b, h2, _, h3, h4⟩ := starL_first hv' hv0
      exact ⟨a, b, h2, h3, h4⟩
  · rintro ⟨k, _, hk, ha, hv⟩
    refine ⟨w.take k, w.drop k, (List.take_append_drop k w).symm, ha, ?_⟩
    rcases hv with h | ⟨u, v, h, h2, h3⟩
    · rw [h, List.drop_length]; exact .nil
    · rw [h]; exact .cons h2 h3
theorem wordsAlt_one (p : Tr) (w : List Sy) : WordsAlt [p] w ↔ Words p w := by simp [WordsAlt]
theorem wordsSeq_one (p : Tr) (w : List Sy) : WordsSeq [p] w ↔ Words p w := by
  simp only [WordsSeq]
  constructor
  · rintro ⟨u, v, rfl, h, rfl⟩; rwa [List.append_nil]
  · intro h; exact ⟨w, [], by simp, h, rfl⟩
theorem wordsSeq_cut (p : Tr) (r : List Tr) (w : List Sy) : WordsSeq (p :: r) w ↔ ∃ k, k ≤ w.length ∧ Words p (w.take k) ∧ WordsSeq r (w.drop k) := by
  rw [WordsSeq]
  constructor
  · rintro ⟨u, v, rfl, h, h2⟩
    exact ⟨u.length, by rw [List.length_append]; omega, by rw [List.take_left]; exact h, by rw [List.drop_left]; exact h2⟩
  · rintro ⟨k, _, h, h2⟩
    exact ⟨_, _, (List.take_append_drop k w).symm, h, h2⟩
theorem words_step (n : Int) (w : List Sy) : Words (.node 0 n []) w ↔ w = [(n, false)] := by simp [Words]
theorem words_back (n : Int) (w : List Sy) : Words (.node 1 n []) w ↔ w = [(n, true)] := by simp [Words]
theorem words_seq (n : Int) (ps : List Tr) (w : List Sy) : Words (.node 2 n ps) w ↔ WordsSeq ps w := by simp [Words]
theorem words_alt (n : Int) (ps : List Tr) (w : List Sy) : Words (.node 3 n ps) w ↔ WordsAlt ps w := by simp [Words]
theorem words_opt (n : Int) (p : Tr) (w : List Sy) : Words (.node 6 n [p]) w ↔ w = [] ∨ Words p w := by simp [Words, wordsAlt_one]
theorem alt1 (p : Tr) : WordsAlt [p] = Words p := funext fun w => propext (wordsAlt_one p w)
theorem words_star0 (n : Int) (p : Tr) (w : List Sy) : Words (.node 4 n [p]) w ↔ StarL (Words p) w := by simp [Words, alt1]
theorem words_plus0 (n : Int) (p : Tr) (w : List Sy) : Words (.node 5 n [p]) w ↔ ∃ u v, w = u ++ v ∧ Words p u ∧ StarL (Words p) v := by simp [Words, alt1]
theorem words_star_nil (n : Int) (p : Tr) : Words (.node 4 n [p]) [] := (words_star0 n p _).2 .nil
theorem words_plus_nil (n : Int) (p : Tr) : Words (.node 5 n [p]) [] ↔ Words p [] := by
  rw [words_plus0]
  constructor
  · rintro ⟨u, v, h, h2, -⟩
    obtain ⟨rfl, rfl⟩ := List.append_eq_nil_iff.1 h.symm
    exact h2
  · intro h; exact ⟨[], [], rfl, h, .nil⟩
theorem words_star (n : Int) (p : Tr) {w : List Sy} (hw : w ≠ []) : Words (.node 4 n [p]) w ↔ ∃ k, 1 ≤ k ∧ k ≤ w.length ∧ Words p (w.take k) ∧ (k = w.length ∨ Words (.node 4 n [p]) (w.drop k)) := by
  simp only [words_star0]
  exact starL_cut hw
theorem words_plus (n : Int) (p : Tr) {w : List Sy} (hw : w ≠ []) : Words (.node 5 n [p]) w ↔ ∃ k, 1 ≤ k ∧ k ≤ w.length ∧ Words p (w.take k) ∧ (k = w.length ∨ Words (.node 5 n [p]) (w.drop k)) := by
  simp only [words_plus0]
  exact plusL_cut hw
/-- words of parts, any of which may do -/
theorem wordsAlt_iff (ps : List Tr) (w : List Sy) : WordsAlt ps w ↔ ∃ p ∈ ps, Words p w := by
  induction ps with
  | nil => simp [WordsAlt]
  | cons p r ih => rw [WordsAlt, ih]; simp

/- A path turned. -/
mutual
def turnT : Tr → Tr
  | .node k n ps => .node (if k = 0 then 1 else if k = 1 then 0 else k) n (if k = 2 then (turnL ps).reverse else turnL ps)
def turnL : List Tr → List Tr
  | [] => []
  | p :: r => turnT p :: turnL r
end
theorem turnL_map : ∀ ps : List Tr, turnL ps = ps.map turnT
  | [] => rfl
  | p :: r => by rw [turnL, turnL_map r]; rfl
mutual
theorem turn_turn : ∀ t : Tr, turnT (turnT t) = t
  | .node k n ps => by
    rw [turnT, turnT]
    by_cases h0 : k = 0
    · subst h0; simp [turnL_turnL ps]
    by_cases h1 : k = 1
    · subst h1; simp [turnL_turnL ps]
    by_cases h2 : k = 2
    · subst h2
      simp [turnL_map]
      have := turnL_turnL ps
      simpa [turnL_map] using this
    · simp [h0, h1, h2, turnL_turnL ps]
theorem turnL_turnL : ∀ ps : List Tr, turnL (turnL ps) = ps
  | [] => rfl
  | p :: r => by rw [turnL, turnL, turn_turn p, turnL_turnL r]
end
def flipS (s : Sy) : Sy := (s.1, !s.2)
def flipW (w : List Sy) : List Sy := (w.map flipS).reverse
theorem flip_flip (w : List Sy) : flipW (flipW w) = w := by
  unfold flipW
  rw [List.map_reverse, List.reverse_reverse, List.map_map]
  conv => rhs; rw [← List.map_id w]
  congr 1
  funext s
  simp [flipS]
theorem flip_app (u v : List Sy) : flipW (u ++ v) = flipW v ++ flipW u := by simp [flipW]
theorem seq_app {a b : List Tr} {u v : List Sy} (h : WordsSeq a u) (k : WordsSeq b v) : WordsSeq (a ++ b) (u ++ v) := by
  induction a generalizing u with
  | nil => rw [WordsSeq] at h; subst h; exact k
  | cons p r ih =>
    rw [WordsSeq] at h
    obtain ⟨x, y, rfl, h1, h2⟩ := h
    rw [List.cons_append, WordsSeq]
    exact ⟨x, y ++ v, by rw [List.append_assoc], h1, ih h2⟩
theorem star_flip {A B : List Sy → Prop} (hAB : ∀ w, A w → B (flipW w)) {w : List Sy} (h : StarL A w) : StarL B (flipW w) := by
  induction h with
  | nil => exact .nil
  | cons ha _ ih => rw [flip_app]; exact starL_add ih (starL_one (hAB _ ha))
mutual
theorem turn_to : ∀ (t : Tr) (w : List Sy), Words t w → Words (turnT t) (flipW w)
  | .node k n ps, w, h => by
    rw [turnT, Words]
    rw [Words] at h
    by_cases h0 : k = 0
    · subst h0; simp at h ⊢; subst h; rfl
    by_cases h1 : k = 1
    · subst h1; simp at h ⊢; subst h; rfl
    by_cases h2 : k = 2
    · subst h2; simp at h ⊢; exact turnS_to ps w h
    by_cases h3 : k = 3
    · subst h3; simp at h ⊢; exact turnA_to ps w h
    by_cases h4 : k = 4
    · subst h4; simp at h ⊢; exact star_flip (turnA_to ps) h
    by_cases h5 : k = 5
    · subst h5
      simp at h ⊢
      obtain ⟨u, v, rfl, ha, hs⟩ := h
      rw [flip_app]
      have h6 := star_flip (turnA_to ps) hs
      have h7 := turnA_to ps u ha
      by_cases hv : flipW v = []
      · rw [hv, List.nil_append]; exact ⟨_, [], (List.append_nil _).symm, h7, .nil⟩
      · obtain ⟨x, y, h8, _, h9, h10⟩ := starL_first h6 hv
        rw [h8]
        exact ⟨x, y ++ flipW u, by rw [List.append_assoc], h9, starL_add h10 (starL_one h7)⟩
    · simp only [h0, h1, h2, h3, h4, h5, if_false] at h ⊢
      rcases h with h | h
      · left; rw [h]; rfl
      · right; exact turnA_to ps w h
theorem turnS_to : ∀ (ps : List Tr) (w : List Sy), WordsSeq ps w → WordsSeq (turnL ps).reverse (flipW w)
  | [], w, h => by rw [WordsSeq] at h; subst h; simp [turnL, WordsSeq, flipW]
  | p :: r, w, h => by
    rw [WordsSeq] at h
    obtain ⟨u, v, rfl, h1, h2⟩ := h
    rw [flip_app, turnL, List.reverse_cons]
    exact seq_app (turnS_to r v h2) ((wordsSeq_one _ _).2 (turn_to p u h1))
theorem turnA_to : ∀ (ps : List Tr) (w : List Sy), WordsAlt ps w → WordsAlt (turnL ps) (flipW w)
  | [], w, h => by rw [WordsAlt] at h; exact h.elim
  | p :: r, w, h => by
    rw [WordsAlt] at h
    rw [turnL, WordsAlt]
    rcases h with h | h
    · exact .inl (turn_to p w h)
    · exact .inr (turnA_to r w h)
end
theorem turn_words (t : Tr) (w : List Sy) : Words (turnT t) (flipW w) ↔ Words t w := by
  constructor
  · intro h
    have := turn_to _ _ h
    rwa [turn_turn, flip_flip] at this
  · exact turn_to t w
theorem sizeL_rev : ∀ ps : List Tr, sizeL ps.reverse = sizeL ps
  | [] => rfl
  | p :: r => by
    rw [List.reverse_cons]
    have : ∀ a : List Tr, sizeL (a ++ [p]) = sizeL a + sizeT p := fun a => by
      induction a with
      | nil => simp [sizeL]
      | cons x r ih => rw [List.cons_append, sizeL, sizeL, ih]; omega
    rw [this, sizeL_rev r, sizeL]; omega
theorem depthL_rev : ∀ ps : List Tr, depthL ps.reverse = depthL ps
  | [] => rfl
  | p :: r => by
    rw [List.reverse_cons]
    have : ∀ a : List Tr, depthL (a ++ [p]) = max (depthL a) (depthT p) := fun a => by
      induction a with
      | nil => simp [depthL]
      | cons x r ih => rw [List.cons_append, depthL, depthL, ih]; omega
    rw [this, depthL_rev r, depthL]; omega
theorem formL_rev : ∀ ps : List Tr, formL ps.reverse = formL ps
  | [] => rfl
  | p :: r => by
    rw [List.reverse_cons]
    have : ∀ a : List Tr, formL (a ++ [p]) = (formL a && formB p) := fun a => by
      induction a with
      | nil => simp [formL]
      | cons x r ih => rw [List.cons_append, formL, formL, ih, Bool.and_assoc]
    rw [this, formL_rev r, formL, Bool.and_comm]
theorem turnL_length (ps : List Tr) : (turnL ps).length = ps.length := by rw [turnL_map, List.length_map]
mutual
theorem turn_size : ∀ t : Tr, sizeT (turnT t) = sizeT t
  | .node k n ps => by
    rw [turnT, sizeT, sizeT]
    split
    · rw [sizeL_rev, turnL_size ps]
    · rw [turnL_size ps]
theorem turnL_size : ∀ ps : List Tr, sizeL (turnL ps) = sizeL ps
  | [] => rfl
  | p :: r => by rw [turnL, sizeL, sizeL, turn_size p, turnL_size r]
end
mutual
theorem turn_depth : ∀ t : Tr, depthT (turnT t) = depthT t
  | .node k n ps => by
    rw [turnT, depthT, depthT]
    split
    · rw [depthL_rev, turnL_depth ps]
    · rw [turnL_depth ps]
theorem turnL_depth : ∀ ps : List Tr, depthL (turnL ps) = depthL ps
  | [] => rfl
  | p :: r => by rw [turnL, depthL, depthL, turn_depth p, turnL_depth r]
end
theorem turnL_nil (ps : List Tr) : turnL ps = [] ↔ ps = [] := by
  cases ps <;> simp [turnL]
mutual
theorem turn_form : ∀ t : Tr, formB (turnT t) = formB t
  | .node k n ps => by
    have hL := turnL_form ps
    have hN := turnL_length ps
    have hE := turnL_nil ps
    rw [turnT, formB, formB]
    by_cases h0 : k = 0
    · subst h0; simp [hE]
    by_cases h1 : k = 1
    · subst h1; simp [hE]
    by_cases h2 : k = 2
    · subst h2; simp [hE, formL_rev, hL]
    · simp [h0, h1, h2, hE, hL, hN]
theorem turnL_form : ∀ ps : List Tr, formL (turnL ps) = formL ps
  | [] => rfl
  | p :: r => by rw [turnL, formL, formL, turn_form p, turnL_form r]
end
theorem turn_chk (t : Tr) : chk (turnT t) = chk t := by
  unfold chk
  rw [show (40 : Int) = ((40 : Nat) : Int) from rfl, deep_depth, deep_depth, turn_size, turn_depth, turn_form]
/- does a path take no symbols? -/
mutual
def emptyT : Tr → Bool
  | .node k _ ps => if k = 4 ∨ k = 6 then true else if k = 3 ∨ k = 5 then emptyA ps else if k = 2 then emptyS ps else false
def emptyA : List Tr → Bool
  | [] => false
  | p :: r => emptyT p || emptyA r
def emptyS : List Tr → Bool
  | [] => true
  | p :: r => emptyT p && emptyS r
end
mutual
theorem empty_words : ∀ t : Tr, Form t → (emptyT t = true ↔ Words t [])
  | .node k n ps, hF => by
    rw [Form] at hF
    rw [emptyT]
    rcases hF with ⟨hk, rfl, _⟩ | ⟨hk, hne, hf⟩ | ⟨hk, ⟨p, rfl⟩, hf⟩
    · rcases hk with rfl | rfl <;> simp [Words]
    · rcases hk with rfl | rfl
      · simp [words_seq, emptyS_words ps hf]
      · simp [words_alt, emptyA_words ps hf]
    · have h1 := emptyA_words [p] hf
      rw [wordsAlt_one] at h1
      rcases hk with rfl | rfl | rfl
      · simp [words_star_nil]
      · simp [words_plus_nil, h1]
      · simp [words_opt]
theorem emptyA_words : ∀ ps : List Tr, FormL ps → (emptyA ps = true ↔ WordsAlt ps [])
  | [], _ => by simp [emptyA, WordsAlt]
  | p :: r, hF => by
    rw [FormL] at hF
    rw [emptyA, WordsAlt, Bool.or_eq_true, empty_words p hF.1, emptyA_words r hF.2]
theorem emptyS_words : ∀ ps : List Tr, FormL ps → (emptyS ps = true ↔ WordsSeq ps [])
  | [], _ => by simp [emptyS, WordsSeq]
  | p :: r, hF => by
    rw [FormL] at hF
    rw [emptyS, wordsSeq_cut, Bool.and_eq_true, empty_words p hF.1, emptyS_words r hF.2]
    simp
end
end Go.Proofs.Ytiabmdboacpmcaa
/- Plain law: nodes that have been fixed, and their trees. -/
namespace Go.Proofs.Ytiabmdboacpmcaa
open Go Go.RowKit Go.Sort

/-- a node at a place of n fixed ones -/
def FixNd (n i : Nat) (x : Nd) : Prop := 0 ≤ x.1 ∧ x.1 ≤ 6 ∧ 0 ≤ x.2.1 ∧ x.2.1 ≤ 3 ∧ (x.1 < 2 → x.2.2 = []) ∧ (1 < x.1 → x.2.2 ≠ []) ∧ (3 < x.1 → x.2.2.length = 1) ∧ x.2.2.length ≤ 2 ∧ ∀ d ∈ x.2.2, d < 8 ∧ i + 1 + d < n
def Fixed (L : List Nd) : Prop := ∀ (i : Nat) (x : Nd), L[i]? = some x → FixNd L.length i x
theorem fixed_tail {x : Nd} {r : List Nd} (h : Fixed (x :: r)) : Fixed r := by
  intro i y hy
  obtain ⟨h1, h2, h3, h4, h5, h6, h7, h8, h9⟩ := h (i + 1) y (by simpa using hy)
  exact ⟨h1, h2, h3, h4, h5, h6, h7, h8, fun d hd => by have := h9 d hd; rw [List.length_cons] at this; omega⟩
theorem fixed_nodes {L : List Nd} (h : Fixed L) : Fixed (nodesOf L) := by
  unfold nodesOf
  split
  · intro i x hx
    cases i with
    | zero => simp at hx; subst hx; simp [FixNd]
    | succ i => simp at hx
  · exact h
theorem nodesOf_length (L : List Nd) : (nodesOf L).length = max L.length 1 := by
  unfold nodesOf
  split
  · rename_i h; subst h; rfl
  · rename_i h; have := List.length_pos_iff.2 h; omega
def Fit (m : Nat) (t : Tr) : Prop := formB t = true ∧ sizeT t < 2 ^ m ∧ depthT t ≤ m
theorem fit_mono {m m' : Nat} {t : Tr} (h : Fit m t) (hm : m ≤ m') : Fit m' t := ⟨h.1, Nat.lt_of_lt_of_le h.2.1 (Nat.pow_le_pow_right (by decide) hm), Nat.le_trans h.2.2 hm⟩
theorem fixed_trs : ∀ (L : List Nd), L.length ≤ 8 → Fixed L → ∀ t ∈ trs L, Fit L.length t
  | [], _, _, t, ht => by cases ht
  | x :: r, hl, hF, t, ht => by
    have hr := fixed_trs r (by rw [List.length_cons] at hl; omega) (fixed_tail hF)
    rw [trs] at ht
    rcases List.mem_cons.1 ht with rfl | ht
    · obtain ⟨h1, h2, h3, h4, h5, h6, h7, h8, h9⟩ := hF 0 x rfl
      obtain ⟨k, n, ds⟩ := x
      simp only at *
      rw [List.length_cons] at hl h9
      have hpw : 2 ^ r.length ≤ 128 := Nat.le_trans (Nat.pow_le_pow_right (by decide) (show r.length ≤ 7 by omega)) (by decide)
      have hps : 2 ^ (r.length + 1) = 2 ^ r.length + 2 ^ r.length := by rw [Nat.pow_succ]; omega
      have hget : ∀ d ∈ ds, ∃ q, (trs r)[d % 8]? = some q ∧ Fit r.length q := by
        intro d hd
        have := h9 d hd
        have hd8 : d % 8 = d := Nat.mod_eq_of_lt this.1
        rw [hd8]
        have hlt : d < (trs r).length := by rw [trs_length]; omega
        exact ⟨_, List.getElem?_eq_getElem hlt, hr _ (List.getElem_mem hlt)⟩
      have hp1 := Nat.one_le_two_pow (n := r.length)
      unfold Fit
      rw [List.length_cons]
      match ds, h5, h6, h7, h8, hget with
      | [], h5, h6, h7, h8, hget =>
        have hk : k = 0 ∨ k = 1 := by
          rcases Int.lt_or_le 1 k with h | h
          · exact absurd rfl (h6 h)
          · omega
        simp only [treeOf, picks, List.filterMap_nil, formB, sizeT, depthT, sizeL, depthL]
        refine ⟨by rw [if_pos hk]; simp; exact h3, by omega, by omega⟩
      | [d], h5, h6, h7, h8, hget =>
        obtain ⟨q, hq, hq1, hq2, hq3⟩ := hget d (List.mem_singleton.2 rfl)
        have hk : ¬ k < 2 := fun h => by have := h5 h; cases this
        simp only [treeOf, picks, hq]
        rw [if_neg (by omega), List.filterMap_cons_some hq]
        simp only [List.filterMap_nil, formB, sizeT, depthT, sizeL, depthL, formL, hq1, List.length_singleton]
        refine ⟨?_, by omega, by omega⟩
        by_cases hk2 : k = 2 ∨ k = 3
        · rw [if_neg (by omega), if_pos hk2]; rfl
        · rw [if_neg (by omega), if_neg hk2, if_pos (by omega)]; rfl
      | [d, e], h5, h6, h7, h8, hget =>
        obtain ⟨q, hq, hq1, hq2, hq3⟩ := hget d (List.mem_cons_self ..)
        obtain ⟨s, hs, hs1, hs2, hs3⟩ := hget e (List.mem_cons_of_mem _ (List.mem_singleton.2 rfl))
        have hk : ¬ k < 2 := fun h => by have := h5 h; cases this
        have hk3 : ¬ 3 < k := fun h => by have := h7 h; simp at this
        simp only [treeOf, picks, hq, hs]
        rw [if_neg (by omega), if_neg (by omega), List.filterMap_cons_some hq, List.filterMap_cons_some hs]
        simp only [List.filterMap_nil, formB, sizeT, depthT, sizeL, depthL, formL, hq1, hs1]
        refine ⟨?_, by omega, by omega⟩
        rw [if_neg (by omega), if_pos (by omega)]; rfl
    · exact fit_mono (hr t ht) (by rw [List.length_cons]; omega)
theorem fit_chk {m : Nat} {t : Tr} (h : Fit m t) (hm : m ≤ 8) : formB t = true ∧ (chk t = 0 ∨ chk t = 13) ∧ (m ≤ 7 → chk t = 0) := by
  obtain ⟨h1, h2, h3⟩ := h
  have hd : deepB t 40 = true := by
    rw [show (40 : Int) = ((40 : Nat) : Int) from rfl, deep_depth, decide_eq_true_eq]; omega
  have hc : chk t = if 200 < sizeT t then 13 else 0 := by
    unfold chk
    rw [hd, h1]
    rfl
  refine ⟨h1, by rw [hc]; split <;> simp, fun h7 => ?_⟩
  have : 2 ^ m ≤ 128 := Nat.le_trans (Nat.pow_le_pow_right (by decide) h7) (by decide)
  rw [hc, if_neg (by omega)]
theorem fit_form {m : Nat} {t : Tr} (h : Fit m t) : Form t := formB_iff t h.1
end Go.Proofs.Ytiabmdboacpmcaa
