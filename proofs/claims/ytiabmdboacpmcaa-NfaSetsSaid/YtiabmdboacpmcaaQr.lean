/- Paths put together: their values, their words; rows cut short. -/
import Derived.Test.YtiabmdboacpmcaaQp
namespace Go.Proofs.Ytiabmdboacpmcaa
open Go Go.RowKit Go.Sort
set_option maxHeartbeats 1000000

theorem chk_of {t : Tr} (h1 : formB t = true) (h2 : sizeT t ≤ 200) (h3 : depthT t ≤ 40) : chk t = 0 := by
  have hd : deepB t 40 = true := by
    rw [show (40 : Int) = ((40 : Nat) : Int) from rfl, deep_depth, decide_eq_true_eq]; omega
  unfold chk
  rw [hd, h1, if_pos rfl, if_neg (by omega), if_pos rfl]
theorem fit_small {m : Nat} {t : Tr} (h : Fit m t) (hm : m ≤ 5) : formB t = true ∧ sizeT t ≤ 31 ∧ depthT t ≤ 5 := by
  obtain ⟨h1, h2, h3⟩ := h
  have : 2 ^ m ≤ 32 := Nat.le_trans (Nat.pow_le_pow_right (by decide) hm) (by decide)
  exact ⟨h1, by omega, by omega⟩
theorem chk_loop {p : Tr} (k : Int) (hk : k = 4 ∨ k = 5 ∨ k = 6) (h1 : formB p = true) (h2 : sizeT p ≤ 100) (h3 : depthT p ≤ 30) : chk (.node k 0 [p]) = 0 ∧ formB (.node k 0 [p]) = true ∧ sizeT (.node k 0 [p]) = 1 + sizeT p ∧ depthT (.node k 0 [p]) = 1 + depthT p := by
  have e1 : formB (.node k 0 [p]) = true := by rcases hk with rfl | rfl | rfl <;> simp [formB, formL, h1]
  have e2 : sizeT (.node k 0 [p]) = 1 + sizeT p := by simp [sizeT, sizeL]
  have e3 : depthT (.node k 0 [p]) = 1 + depthT p := by simp [depthT, depthL]
  exact ⟨chk_of e1 (by omega) (by omega), e1, e2, e3⟩
theorem chk_pair {p q : Tr} (k : Int) (hk : k = 2 ∨ k = 3) (h1 : formB p = true) (h2 : sizeT p ≤ 90) (h3 : depthT p ≤ 30) (k1 : formB q = true) (k2 : sizeT q ≤ 90) (k3 : depthT q ≤ 30) : chk (.node k 0 [p, q]) = 0 := by
  have e1 : formB (.node k 0 [p, q]) = true := by rcases hk with rfl | rfl <;> simp [formB, formL, h1, k1]
  have e2 : sizeT (.node k 0 [p, q]) = 1 + (sizeT p + sizeT q) := by simp [sizeT, sizeL]
  have e3 : depthT (.node k 0 [p, q]) = 1 + max (depthT p) (depthT q) := by simp [depthT, depthL]
  exact chk_of e1 (by omega) (by omega)
theorem PT_val3 {w : World} {t : Tr} {a b s : Value} {g o : Nat} (h : PV w t (.agg #[a, b, s])) (h1 : w.cell? ⟨g, o, none⟩ = some a) (h2 : w.cell? ⟨g, o + 1, none⟩ = some b) (h3 : w.cell? ⟨g, o + 2, none⟩ = some s) : PT w t g o := by
  cases t with
  | node k n ps =>
    obtain ⟨s', hs, A, c, rfl, hp⟩ := h
    simp only [Value.agg.injEq, Array.mk.injEq, List.cons.injEq, and_true] at hs
    obtain ⟨rfl, rfl, rfl⟩ := hs
    rw [PT]
    exact ⟨h1, h2, A, c, h3, hp⟩
theorem PV_wrap {w : World} {g : Nat} {p : Tr} {a b s : Value} (k z : Int) (h : PV w p (.agg #[a, b, s])) (hb : w.heap[g]? = some (.cells #[a, b, s] 30 (0, 0))) : PV w (.node k z [p]) (.agg #[.int .i64 k, .int .i64 z, .slice (some ⟨g, 0, none⟩) 1 1]) := by
  refine ⟨_, rfl, _, _, rfl, fun _ => ⟨g, 0, rfl, ?_⟩⟩
  rw [PL, PL]
  exact ⟨PT_val3 h (block_cell hb 0) (block_cell hb 1) (block_cell hb 2), trivial⟩
theorem PV_pair {w : World} {g : Nat} {p q : Tr} {a b s a' b' s' : Value} (k z : Int) (h : PV w p (.agg #[a, b, s])) (h' : PV w q (.agg #[a', b', s'])) (hb : w.heap[g]? = some (.cells #[a, b, s, a', b', s'] 30 (0, 0))) : PV w (.node k z [p, q]) (.agg #[.int .i64 k, .int .i64 z, .slice (some ⟨g, 0, none⟩) 2 2]) := by
  refine ⟨_, rfl, _, _, rfl, fun _ => ⟨g, 0, rfl, ?_⟩⟩
  rw [PL, PL, PL]
  exact ⟨PT_val3 h (block_cell hb 0) (block_cell hb 1) (block_cell hb 2), PT_val3 h' (block_cell hb 3) (block_cell hb 4) (block_cell hb 5), trivial⟩
theorem star_again (p : Tr) (u : List Sy) : tk (.node 6 0 [.node 5 0 [p]]) u = tk (.node 4 0 [p]) u := by
  rw [Bool.eq_iff_iff, tk_iff, tk_iff, words_opt, words_plus0, words_star0]
  constructor
  · rintro (rfl | ⟨a, b, rfl, h1, h2⟩)
    · exact .nil
    · exact .cons h1 h2
  · intro h
    cases h with
    | nil => exact .inl rfl
    | cons h1 h2 => exact .inr ⟨_, _, rfl, h1, h2⟩
theorem plus_both (p : Tr) (u : List Sy) : tk (.node 2 0 [p, .node 4 0 [p]]) u = tk (.node 5 0 [p]) u := by
  rw [Bool.eq_iff_iff, tk_iff, tk_iff, words_seq, words_plus0, WordsSeq]
  constructor
  · rintro ⟨a, b, h, h1, h2⟩
    exact ⟨a, b, h, h1, (words_star0 0 p b).1 ((wordsSeq_one _ _).1 h2)⟩
  · rintro ⟨a, b, h, h1, h2⟩
    exact ⟨a, b, h, h1, (wordsSeq_one _ _).2 ((words_star0 0 p b).2 h2)⟩
theorem plus_star {p : Tr} {u : List Sy} (h : tk (.node 5 0 [p]) u = true) : tk (.node 4 0 [p]) u = true := by
  rw [tk_iff, words_plus0] at h
  obtain ⟨a, b, rfl, h1, h2⟩ := h
  rw [tk_iff, words_star0]
  exact .cons h1 h2
theorem star_nil (p : Tr) : tk (.node 4 0 [p]) [] = true := (tk_iff _ _).2 (words_star_nil 0 p)
theorem rdNd_take {w : World} {A : Option Addr} {n c k : Nat} {L : List Nd} (h : RdNd w (.slice A n c) L) (hk : k ≤ L.length) (c' : Nat) (hc : k ≤ c') : RdNd w (.slice A k c') (L.take k) := by
  obtain ⟨A', c1, h1, h2, h0, h3⟩ := h
  simp only [Value.slice.injEq] at h1
  obtain ⟨rfl, -, -⟩ := h1
  have hl : (L.take k).length = k := by rw [List.length_take]; omega
  refine ⟨A, c', by rw [hl], by rw [hl]; exact hc, fun x hx => h0 x (List.mem_of_mem_take hx), fun hne => ?_⟩
  obtain ⟨b, off, h4, h5, h6⟩ := h3 (fun e => by rw [e] at hne; simp at hne)
  refine ⟨b, off, h4, h5, fun i x hx => h6 i x ?_⟩
  rw [List.getElem?_take] at hx
  split at hx
  · exact hx
  · cases hx
theorem one_any (k : Int) (A : Option Addr) (n c : Nat) (w : World) : Calls Try.prog 27 #[.int .i64 k, .slice A n c] w fun e w' => e = .returned (.agg #[.int .i64 k, .int .i64 0, .slice A n c]) ∧ Ext w w' := by
  go_enter Try.func27, Try.ntmps27
  go_wp2
  refine bodyPost_ret (v := .agg #[.int .i64 k, .int .i64 0, .slice A n c]) (by simp [results, Try.results27, go_sem]) rfl ?_
  exact ⟨rfl, ext_alloc (ext_refl _) _⟩
end Go.Proofs.Ytiabmdboacpmcaa
