/- The document's Check. -/
import Derived.Test.YtiabmdboacpmcaaPw
namespace Go.Proofs.Ytiabmdboacpmcaa
open Go Go.RowKit Go.Sort
set_option maxHeartbeats 800000

mutual
def depthT : Tr → Nat
  | .node _ _ ps => 1 + depthL ps
def depthL : List Tr → Nat
  | [] => 0
  | p :: r => max (depthT p) (depthL r)
end
mutual
theorem deep_depth : ∀ (t : Tr) (l : Nat), deepB t (l : Int) = decide (depthT t ≤ l)
  | .node k n ps, l => by
    rw [deepB, depthT]
    cases l with
    | zero => simp
    | succ l =>
      rw [show ((l + 1 : Nat) : Int) - 1 = (l : Int) by omega, deepL_depth ps l]
      rw [Bool.eq_iff_iff]
      simp
      omega
theorem deepL_depth : ∀ (ps : List Tr) (l : Nat), deepL ps (l : Int) = decide (depthL ps ≤ l)
  | [], l => by simp [deepL, depthL]
  | p :: r, l => by
    rw [deepL, depthL, deep_depth p l, deepL_depth r l]
    rw [Bool.eq_iff_iff]
    simp
    omega
end
mutual
theorem depth_size : ∀ (t : Tr), depthT t ≤ sizeT t
  | .node k n ps => by rw [depthT, sizeT]; have := depthL_size ps; omega
theorem depthL_size : ∀ (ps : List Tr), depthL ps ≤ sizeL ps
  | [] => by simp [depthL]
  | p :: r => by rw [depthL, sizeL]; have := depth_size p; have := depthL_size r; omega
end
theorem depthL_take {ps : List Tr} {j : Nat} {q : Tr} (h : ps[j]? = some q) : depthL (ps.take (j + 1)) = max (depthL (ps.take j)) (depthT q) := by
  induction ps generalizing j with
  | nil => simp at h
  | cons p r ih =>
    cases j with
    | zero =>
      simp only [List.getElem?_cons_zero, Option.some.injEq] at h
      subst h
      simp [depthL]
    | succ j =>
      have := ih (j := j) (by simpa using h)
      rw [List.take_succ_cons, depthL, this, List.take_succ_cons, depthL]
      omega

/-- a document's path at a place of its list -/
def Lst (w : World) (rb n : Nat) (t : Tr) (x : Nat) : Prop := ∃ lo H, H ≤ w.heap.size ∧ TR w rb n lo H t x
theorem lst_ext {w w' : World} {rb n x : Nat} {t : Tr} (h : Lst w rb n t x) (hE : Ext w w') : Lst w' rb n t x := by
  obtain ⟨lo, H, hH, hT⟩ := h
  have hrb : rb < w.heap.size := by
    cases t with
    | node k m ps =>
      rw [TR] at hT
      exact World.block_lt_of_cell? _ _ hT.2.1
  exact ⟨lo, H, Nat.le_trans hH (ext_size hE), TR_same (i := 0) (fun g o _ hg => ext_cell hE _ _ (by omega)) (fun o _ => ext_cell hE _ _ hrb) (Nat.le_refl _) t x (Nat.zero_le _) hT⟩
theorem lst_node {w : World} {rb n x : Nat} {k m : Int} {ps : List Tr} (h : Lst w rb n (.node k m ps) x) : x < n ∧ rb < w.heap.size ∧ w.cell? ⟨rb, x * 3, none⟩ = some (.int .i64 k) ∧ w.cell? ⟨rb, x * 3 + 1, none⟩ = some (.int .i64 m) ∧ ∃ A c, w.cell? ⟨rb, x * 3 + 2, none⟩ = some (.slice A ps.length c) ∧ ps.length ≤ c ∧ ∀ (j : Nat) (q : Tr), ps[j]? = some q → ∃ (g y : Nat), A = some ⟨g, 0, none⟩ ∧ g < w.heap.size ∧ w.cell? ⟨g, j, none⟩ = some (.int .i64 (y : Int)) ∧ y < n ∧ Lst w rb n q y := by
  obtain ⟨lo, H, hH, hT⟩ := h
  rw [TR] at hT
  obtain ⟨h0, h1, h2, A, c, h3, hc, h4⟩ := hT
  refine ⟨h0, World.block_lt_of_cell? _ _ h1, h1, h2, A, c, h3, hc, fun j q hq => ?_⟩
  obtain ⟨g, h5, _, h7, h8⟩ := h4 (fun e => by rw [e] at hq; simp at hq)
  obtain ⟨y, _, h10, h11⟩ := LR_at h8 hq
  rw [Nat.zero_add] at h10
  refine ⟨g, y, h5, by omega, h10, ?_, lo, H, hH, h11⟩
  cases q with
  | node k' m' qs => rw [TR] at h11; exact h11.1

def RSizeAt (N : Nat) : Prop := ∀ (t : Tr) (rb n x : Nat) (w : World), sizeT t ≤ N → n ≤ 100 → Lst w rb n t x → Calls Try.prog 56 #[.slice (some ⟨rb, 0, none⟩) n n, .int .i64 (x : Int)] w fun e w' => e = .returned (.int .i64 (sizeT t)) ∧ Ext w w'
theorem rsize_step {N : Nat} (hd : RSizeAt N) (hN1 : N ≤ 100000) : RSizeAt (N + 1) := by
  intro t rb n x w hN hn hl
  cases t with
  | node k m ps =>
    rw [sizeT] at hN ⊢
    have hlen := sizeL_len ps
    have HD := Lib.hid hd
    have HL := Lib.hid hl
    obtain ⟨hx, lrb, -, -, A, c, h3, hc, -⟩ := lst_node hl
    have hxi : (x : Int) < (n : Int) := by omega
    have hx0 : (0 : Int) ≤ (x : Int) := by omega
    have q3 := h3
    have H3 := Lib.hid h3
    clear hd hl h3
    go_enter Try.func56, Try.ntmps56
    go_wp2
    go_loopw [13, 5] (fun x y wr => ∃ j : Nat, j ≤ ps.length ∧ x = .int .i64 j ∧ y = .int .i64 ((1 + sizeL (ps.take j) : Nat) : Int) ∧ Ext w wr) (fun x _ _ => ps.length - (intOf x).toNat)
    case atStart => exact ⟨0, Nat.zero_le _, rfl, by simp [sizeL], ext_refl _⟩
    case round =>
      rename World => wo
      obtain ⟨j, hj, rfl, rfl, hE⟩ := hrel
      have HE := Lib.hid hE
      clear hE q3 lrb
      by_cases hlt : j < ps.length
      · have hji : (j : Int) < (ps.length : Int) := by omega
        have hj0 : (0 : Int) ≤ (j : Int) := by omega
        obtain ⟨q, hq⟩ : ∃ q, ps[j]? = some q := ⟨_, List.getElem?_eq_getElem hlt⟩
        have hst := sizeL_take hq
        have hle := sizeL_le_take ps (j + 1)
        have HST := Lib.hid hst
        obtain ⟨m', hm⟩ : ∃ m', m' = 1 + sizeL (ps.take j) := ⟨_, rfl⟩
        have hm1 : m' + sizeT q ≤ N + 1 := by omega
        have hm0 : 1 ≤ m' := by omega
        rw [← hm]
        have HM := Lib.hid hm
        obtain ⟨_, lrb, -, -, A', c', h3, hc', hch⟩ := lst_node (lst_ext HL.out HE.out)
        have h3' := (ext_cell HE.out _ _ (World.block_lt_of_cell? _ _ H3.out)).trans H3.out
        rw [h3] at h3'
        simp only [Option.some.injEq, Value.slice.injEq] at h3'
        obtain ⟨rfl, -, rfl⟩ := h3'
        obtain ⟨g, y, hA, lg, hgy, hyn, hly⟩ := hch j q hq
        subst hA
        have HLY := Lib.hid hly
        clear hq hst hm hle hch hly
        go_wp2_with fail
        refine (HD.out q rb n y _ (by omega) hn HLY.out).mono ?_
        rintro e w1 ⟨rfl, hE1⟩
        have HE1 := Lib.hid (ext_trans HE.out hE1)
        clear hE1 h3 lrb hgy lg
        go_wp2
        go_roundw
        case rel => exact ⟨j + 1, by omega, by go_num, by rw [HST.out, HM.out]; congr 1; push_cast; omega, HE1.out⟩
        case measure => simp [intOf]; omega
      · obtain rfl : j = ps.length := by omega
        rw [List.take_length]
        go_wp2
        refine bodyPost_ret (results_tmp rfl _ _ _) rfl ?_
        exact ⟨rfl, HE.out⟩
theorem rsize_all : ∀ N : Nat, N ≤ 100000 → RSizeAt N
  | 0, _ => fun t rb n x w hN => by have := sizeT_pos t; omega
  | N + 1, h => rsize_step (rsize_all N (by omega)) (by omega)

theorem depthL_le_take (ps : List Tr) (j : Nat) : depthL (ps.take j) ≤ sizeL ps := Nat.le_trans (depthL_size _) (sizeL_le_take ps j)
def RDepthAt (N : Nat) : Prop := ∀ (t : Tr) (rb n x : Nat) (w : World), sizeT t ≤ N → n ≤ 100 → Lst w rb n t x → Calls Try.prog 55 #[.slice (some ⟨rb, 0, none⟩) n n, .int .i64 (x : Int)] w fun e w' => e = .returned (.int .i64 (depthT t)) ∧ Ext w w'
theorem rdepth_step {N : Nat} (hd : RDepthAt N) (hN1 : N ≤ 100000) : RDepthAt (N + 1) := by
  intro t rb n x w hN hn hl
  cases t with
  | node k m ps =>
    rw [sizeT] at hN
    rw [depthT]
    have hlen := sizeL_len ps
    have HD := Lib.hid hd
    have HL := Lib.hid hl
    obtain ⟨hx, lrb, -, -, A, c, h3, hc, -⟩ := lst_node hl
    have hxi : (x : Int) < (n : Int) := by omega
    have hx0 : (0 : Int) ≤ (x : Int) := by omega
    have q3 := h3
    have H3 := Lib.hid h3
    clear hd hl h3
    go_enter Try.func55, Try.ntmps55
    go_wp2
    go_loopw [14, 5] (fun x y wr => ∃ j : Nat, j ≤ ps.length ∧ x = .int .i64 j ∧ y = .int .i64 ((1 + depthL (ps.take j) : Nat) : Int) ∧ Ext w wr) (fun x _ _ => ps.length - (intOf x).toNat)
    case atStart => exact ⟨0, Nat.zero_le _, rfl, by simp [depthL], ext_refl _⟩
    case round =>
      rename World => wo
      obtain ⟨j, hj, rfl, rfl, hE⟩ := hrel
      have HE := Lib.hid hE
      clear hE q3 lrb
      by_cases hlt : j < ps.length
      · have hji : (j : Int) < (ps.length : Int) := by omega
        have hj0 : (0 : Int) ≤ (j : Int) := by omega
        obtain ⟨q, hq⟩ : ∃ q, ps[j]? = some q := ⟨_, List.getElem?_eq_getElem hlt⟩
        have hst := depthL_take hq
        have hle := depthL_le_take ps j
        have hqs := sizeL_mem (List.mem_of_getElem? hq)
        have hqd := depth_size q
        have HST := Lib.hid hst
        obtain ⟨dj, hdj⟩ : ∃ dj, dj = depthL (ps.take j) := ⟨_, rfl⟩
        obtain ⟨dq, hdq⟩ : ∃ dq, dq = depthT q := ⟨_, rfl⟩
        rw [← hdj] at hle
        rw [← hdq] at hqd
        rw [← hdj]
        have HDJ := Lib.hid hdj
        have HDQ := Lib.hid hdq
        obtain ⟨_, lrb, -, -, A', c', h3, hc', hch⟩ := lst_node (lst_ext HL.out HE.out)
        have h3' := (ext_cell HE.out _ _ (World.block_lt_of_cell? _ _ H3.out)).trans H3.out
        rw [h3] at h3'
        simp only [Option.some.injEq, Value.slice.injEq] at h3'
        obtain ⟨rfl, -, rfl⟩ := h3'
        obtain ⟨g, y, hA, lg, hgy, hyn, hly⟩ := hch j q hq
        subst hA
        have HLY := Lib.hid hly
        clear hq hst hdj hdq hch hly
        go_wp2_with fail
        refine (HD.out q rb n y _ (by omega) hn HLY.out).mono ?_
        rintro e w1 ⟨rfl, hE1⟩
        rw [← HDQ.out]
        have HE1 := Lib.hid (ext_trans HE.out hE1)
        clear hE1 h3 lrb hgy lg
        by_cases hgt : dj < dq
        · have hgi : (1 + (dj : Int)) < 1 + (dq : Int) := by omega
          go_wp2
          go_roundw
          case rel => exact ⟨j + 1, by omega, by go_num, by rw [HST.out, ← HDJ.out, ← HDQ.out]; congr 1; push_cast; omega, HE1.out⟩
          case measure => simp [intOf]; omega
        · have hgi : ¬ (1 + (dj : Int)) < 1 + (dq : Int) := by omega
          go_wp2
          go_roundw
          case rel => exact ⟨j + 1, by omega, by go_num, by rw [HST.out, ← HDJ.out, ← HDQ.out]; congr 1; push_cast; omega, HE1.out⟩
          case measure => simp [intOf]; omega
      · obtain rfl : j = ps.length := by omega
        rw [List.take_length]
        go_wp2
        refine bodyPost_ret (results_tmp rfl _ _ _) rfl ?_
        exact ⟨rfl, HE.out⟩
theorem rdepth_all : ∀ N : Nat, N ≤ 100000 → RDepthAt N
  | 0, _ => fun t rb n x w hN => by have := sizeT_pos t; omega
  | N + 1, h => rdepth_step (rdepth_all N (by omega)) (by omega)
end Go.Proofs.Ytiabmdboacpmcaa
