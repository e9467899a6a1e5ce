/- Rows of the document's lists, appended from wherever they lie. -/
import Derived.Test.YtfaegjlolhpofaaDoorRf
namespace Go.Proofs.YtfaegjlolhpofaaDoor
open Go.RowKit Go.Sort
set_option maxHeartbeats 800000

/-- a part of a row, wherever it begins -/
def SrcOf (w : World) (xv : Value) (L : List Key) : Prop := ∃ A c, xv = .slice A L.length c ∧ (L ≠ [] → ∃ ad, A = some ad ∧ ∀ j u, (flat L)[j]? = some u → w.cell? (Addr.add ad j) = some u)
theorem srcOf_row {w : World} {v : Value} {L : List Key} (h : rowL w v L) : SrcOf w v L := by
  rcases rowL_cases h with ⟨rfl, rfl⟩ | ⟨g, cap, cur, rfl, hg, _, _, _, h4⟩
  · exact ⟨none, 0, rfl, fun h => absurd rfl h⟩
  · exact ⟨_, _, rfl, fun _ => ⟨_, rfl, flat_news hg h4⟩⟩
theorem srcOf_drop {w : World} {g cap : Nat} {L : List Key} {n : Nat} (i : Nat) (h : rowL w (.slice (some ⟨g, 0, none⟩) n cap) L) (A : Option Addr) (m c : Nat) (hm : L.length - i = m) (hA : i < L.length → A = some ⟨g, i * 3, none⟩) : SrcOf w (.slice A m c) (L.drop i) := by
  rcases rowL_cases h with ⟨h1, _⟩ | ⟨g', cap', cur, h1, hg, _, _, _, h4⟩
  · cases h1
  · simp only [Value.slice.injEq, Option.some.injEq, Addr.mk.injEq, and_true] at h1
    obtain ⟨rfl, -, -⟩ := h1
    refine ⟨A, c, by rw [List.length_drop, hm], fun hne => ⟨⟨g, i * 3, none⟩, hA ?_, flat_part i hg h4⟩⟩
    rcases Nat.lt_or_ge i L.length with h | h
    · exact h
    · exact absurd (List.drop_eq_nil_of_le h) hne

theorem append_copy2 (ty : TypeId) (g0 : Nat) (lv : Value) (L : List Key) (w : World) (H : Nat) (hr : SrcOf w lv L) (hm : L.length ≤ 1000000) (h0 : w.heap[g0]? = some (.cells #[] 22 (0, 0))) (hH : H ≤ g0) :
    ∃ v' w', (Builtin.append_ #[45, 45] ty #[.slice (some ⟨g0, 0, none⟩) 0 0, lv]).run Tryd.prog w = .ok v' w' ∧ Ext w w' ∧ rowF H L v' w' := by
  obtain ⟨i0, hi, hz0, hz1, hz2⟩ := info_parts info22
  have hnil : rowL w (.slice (some ⟨g0, 0, none⟩) 0 0) [] := ⟨rfl, .inr ⟨g0, 0, #[], rfl, Nat.zero_le _, h0, Nat.le_refl _, by decide, rfl, rfl⟩⟩
  have hlt := block_lt h0
  obtain ⟨A, c, rfl, hA⟩ := hr
  cases L with
  | nil =>
    have hsrc : Src Tryd.prog i0.size 45 (.slice A 0 c) 0 [] w := by
      cases A with
      | none => exact Src.ofNil w Tryd.underlying45 c
      | some b => exact Src.ofSlice w Tryd.underlying45 b 0 c [] (by simp) (fun j u h => by simp at h) (fun _ h => by cases h)
    exact ⟨_, _, run_append_nothing (P := Tryd.prog) w 45 45 ty 22 i0 Tryd.underlying45 hi (some ⟨g0, 0, none⟩) 0 0 (Nat.le_refl _) (.slice A 0 c) hsrc, ext_refl _, hnil, fun g hg => by cases hg; exact hH⟩
  | cons k L =>
    obtain ⟨ad, rfl, hc⟩ := hA (by simp)
    obtain ⟨v', w', hrun, hown, hgr⟩ := run_append_arg_grows (P := Tryd.prog) w 45 ty 22 i0 (K3 0 0 0) 3 24 Tryd.underlying45 hi hz0 hz1 hz2 rfl (by decide) ⟨g0, 0, none⟩ 0 0 [] rfl (fun j u h => by simp at h)
      ad (k :: L).length c (flat (k :: L)) (flat_length _) hc (by simp) (by unfold maxLen; omega) (by omega)
    exact ⟨v', w', hrun, ext_grown_none hgr, row_base hown (by simp) (by simp) (by omega)⟩

theorem srcOf_take {w : World} {A : Option Addr} {n c : Nat} {L : List Key} (i : Nat) (hi : i ≤ L.length) (h : rowL w (.slice A n c) L) : SrcOf w (.slice A i i) (L.take i) := by
  refine ⟨A, i, by rw [List.length_take, Nat.min_eq_left hi], fun hne => ?_⟩
  rcases rowL_cases h with ⟨_, rfl⟩ | ⟨g, cap, cur, h1, hg, _, _, _, h4⟩
  · simp at hne
  · simp only [Value.slice.injEq] at h1
    obtain ⟨rfl, -, -⟩ := h1
    refine ⟨_, rfl, fun j u hu => flat_news hg h4 j u ?_⟩
    rw [flat_take, List.getElem?_take] at hu
    split at hu
    · exact hu
    · cases hu

/-- one more, where there is no room -/
theorem append_full (ty : TypeId) (A : Option Addr) (L : List Key) (k : Key) (w : World) (H gk : Nat) (hr : SrcOf w (.slice A L.length L.length) L) (hm : L.length < 1000000) (hk : w.heap[gk]? = some (.cells (key3 k) 22 (0, 0))) (hH : H ≤ w.heap.size) :
    ∃ v' w', (Builtin.append_ #[45, 45] ty #[.slice A L.length L.length, .slice (some ⟨gk, 0, none⟩) 1 1]).run Tryd.prog w = .ok v' w' ∧ Ext w w' ∧ rowF H (L ++ [k]) v' w' := by
  obtain ⟨i0, hi, hz0, hz1, hz2⟩ := info_parts info22
  obtain ⟨A', c', h1, h2⟩ := hr
  simp only [Value.slice.injEq] at h1
  obtain ⟨rfl, -, -⟩ := h1
  cases A with
  | none =>
    have hL : L = [] := Classical.byContradiction fun hne => by obtain ⟨ad, h, _⟩ := h2 hne; cases h
    subst hL
    obtain ⟨v', w', hrun, hown, hgr, _⟩ := run_append_own (P := Tryd.prog) w w.heap.size 45 ty 22 i0 (K3 0 0 0) 3 24 Tryd.underlying45 hi hz0 hz1 hz2 rfl (by decide) (.slice none 0 0) 0 [] (World.ownsRow_nil w _ 22 3) ⟨gk, 0, none⟩ 1 1 (key3 k).toList rfl (World.news_of_block hk) (key3_one k) (by decide) (by decide) (Nat.le_refl _)
    exact ⟨v', w', hrun, ext_grown_none hgr, row_base hown (by simp) (by simp [flat, key3]) hH⟩
  | some ad =>
    have hc : ∀ j u, (flat L)[j]? = some u → w.cell? (Addr.add ad j) = some u := by
      intro j u hu
      have hne : L ≠ [] := fun e => by subst e; simp [flat] at hu
      obtain ⟨ad', h, h3⟩ := h2 hne
      cases h
      exact h3 j u hu
    obtain ⟨v', w', hrun, hown, hgr⟩ := run_append_arg_grows (P := Tryd.prog) w 45 ty 22 i0 (K3 0 0 0) 3 24 Tryd.underlying45 hi hz0 hz1 hz2 rfl (by decide) ad L.length L.length (flat L) (flat_length _) hc
      ⟨gk, 0, none⟩ 1 1 (key3 k).toList rfl (World.news_of_block hk) (by omega) (by unfold maxLen; omega) (by omega)
    exact ⟨v', w', hrun, ext_grown_none hgr, row_base hown (by simp) (by simp [flat, key3]) hH⟩
end Go.Proofs.YtfaegjlolhpofaaDoor
