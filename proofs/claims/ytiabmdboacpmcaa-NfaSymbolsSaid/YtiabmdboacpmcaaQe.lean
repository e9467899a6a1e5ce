/- Plain law: nodes that have been fixed, and their trees. -/
import Derived.Test.YtiabmdboacpmcaaQd
namespace Go.Proofs.Ytiabmdboacpmcaa
open Go Go.RowKit Go.Sort

/-- a node at a place of n fixed ones -/
def FixNd (n i : Nat) (x : Nd) : Prop := 0 ≤ x.1 ∧ x.1 ≤ 6 ∧ 0 ≤ x.2.1 ∧ x.2.1 ≤ 3 ∧ (x.1 < 2 → x.2.2 = []) ∧ (1 < x.1 → x.2.2 ≠ []) ∧ (3 < x.1 → x.2.2.length = 1) ∧ x.2.2.length ≤ 2 ∧ ∀ d ∈ x.2.2, d < 8 ∧ i + 1 + d < n
def Fixed (L : List Nd) : Prop := ∀ (i : Nat) (x : Nd), L[i]? = some x → FixNd L.length i x
theorem fixed_tail {x : Nd} {r : List Nd} (h : Fixed (x :: r)) : Fixed r := by
  intro i y hy
  obtain ⟨h1, h2, h3, h4, h5, h6, h7, h8, h9⟩ := h (i + 1) y (by simpa using hy)
  exact ⟨h1, h2, h3, h4, h5, h6, h7, h8, fun d hd => by have := h9 d hd; rw [List.length_cons] at this; omega⟩
theorem fixed_nodes {L : List Nd} (h : Fixed L) : Fixed (nodesOf L) := by
  unfold nodesOf
  split
  · intro i x hx
    cases i with
    | zero => simp at hx; subst hx; simp [FixNd]
    | succ i => simp at hx
  · exact h
theorem nodesOf_length (L : List Nd) : (nodesOf L).length = max L.length 1 := by
  unfold nodesOf
  split
  · rename_i h; subst h; rfl
  · rename_i h; have := List.length_pos_iff.2 h; omega
def Fit (m : Nat) (t : Tr) : Prop := formB t = true ∧ sizeT t < 2 ^ m ∧ depthT t ≤ m
theorem fit_mono {m m' : Nat} {t : Tr} (h : Fit m t) (hm : m ≤ m') : Fit m' t := ⟨h.1, Nat.lt_of_lt_of_le h.2.1 (Nat.pow_le_pow_right (by decide) hm), Nat.le_trans h.2.2 hm⟩
theorem fixed_trs : ∀ (L : List Nd), L.length ≤ 8 → Fixed L → ∀ t ∈ trs L, Fit L.length t
  | [], _, _, t, ht => by cases ht
  | x :: r, hl, hF, t, ht => by
    have hr := fixed_trs r (by rw [List.length_cons] at hl; omega) (fixed_tail hF)
    rw [trs] at ht
    rcases List.mem_cons.1 ht with rfl | ht
    · obtain ⟨h1, h2, h3, h4, h5, h6, h7, h8, h9⟩ := hF 0 x rfl
      obtain ⟨k, n, ds⟩ := x
      simp only at *
      rw [List.length_cons] at hl h9
      have hpw : 2 ^ r.length ≤ 128 := Nat.le_trans (Nat.pow_le_pow_right (by decide) (show r.length ≤ 7 by omega)) (by decide)
      have hps : 2 ^ (r.length + 1) = 2 ^ r.length + 2 ^ r.length := by rw [Nat.pow_succ]; omega
      have hget : ∀ d ∈ ds, ∃ q, (trs r)[d % 8]? = some q ∧ Fit r.length q := by
        intro d hd
        have := h9 d hd
        have hd8 : d % 8 = d := Nat.mod_eq_of_lt this.1
        rw [hd8]
        have hlt : d < (trs r).length := by rw [trs_length]; omega
        exact ⟨_, List.getElem?_eq_getElem hlt, hr _ (List.getElem_mem hlt)⟩
      have hp1 := Nat.one_le_two_pow (n := r.length)
      unfold Fit
      rw [List.length_cons]
      match ds, h5, h6, h7, h8, hget with
      | [], h5, h6, h7, h8, hget =>
        have hk : k = 0 ∨ k = 1 := by
          rcases Int.lt_or_le 1 k with h | h
          · exact absurd rfl (h6 h)
          · omega
        simp only [treeOf, picks, List.filterMap_nil, formB, sizeT, depthT, sizeL, depthL]
        refine ⟨by rw [if_pos hk]; simp; exact h3, by omega, by omega⟩
      | [d], h5, h6, h7, h8, hget =>
        obtain ⟨q, hq, hq1, hq2, hq3⟩ := hget d (List.mem_singleton.2 rfl)
        have hk : ¬ k < 2 := fun h => by have := h5 h; cases this
        simp only [treeOf, picks, hq]
        rw [if_neg (by omega), List.filterMap_cons_some hq]
        simp only [List.filterMap_nil, formB, sizeT, depthT, sizeL, depthL, formL, hq1, List.length_singleton]
        refine ⟨?_, by omega, by omega⟩
        by_cases hk2 : k = 2 ∨ k = 3
        · rw [if_neg (by omega), if_pos hk2]; rfl
        · rw [if_neg (by omega), if_neg hk2, if_pos (by omega)]; rfl
      | [d, e], h5, h6, h7, h8, hget =>
        obtain ⟨q, hq, hq1, hq2, hq3⟩ := hget d (List.mem_cons_self ..)
        obtain ⟨s, hs, hs1, hs2, hs3⟩ := hget e (List.mem_cons_of_mem _ (List.mem_singleton.2 rfl))
        have hk : ¬ k < 2 := fun h => by have := h5 h; cases this
        have hk3 : ¬ 3 < k := fun h => by have := h7 h; simp at this
        simp only [treeOf, picks, hq, hs]
        rw [if_neg (by omega), if_neg (by omega), List.filterMap_cons_some hq, List.filterMap_cons_some hs]
        simp only [List.filterMap_nil, formB, sizeT, depthT, sizeL, depthL, formL, hq1, hs1]
        refine ⟨?_, by omega, by omega⟩
        rw [if_neg (by omega), if_pos (by omega)]; rfl
    · exact fit_mono (hr t ht) (by rw [List.length_cons]; omega)
theorem fit_chk {m : Nat} {t : Tr} (h : Fit m t) (hm : m ≤ 8) : formB t = true ∧ (chk t = 0 ∨ chk t = 13) ∧ (m ≤ 7 → chk t = 0) := by
  obtain ⟨h1, h2, h3⟩ := h
  have hd : deepB t 40 = true := by
    rw [show (40 : Int) = ((40 : Nat) : Int) from rfl, deep_depth, decide_eq_true_eq]; omega
  have hc : chk t = if 200 < sizeT t then 13 else 0 := by
    unfold chk
    rw [hd, h1]
    rfl
  refine ⟨h1, by rw [hc]; split <;> simp, fun h7 => ?_⟩
  have : 2 ^ m ≤ 128 := Nat.le_trans (Nat.pow_le_pow_right (by decide) h7) (by decide)
  rw [hc, if_neg (by omega)]
theorem fit_form {m : Nat} {t : Tr} (h : Fit m t) : Form t := formB_iff t h.1
end Go.Proofs.Ytiabmdboacpmcaa
