/- Rows whose elements are lengthened, one behind the other; what kind a name is. -/
import Derived.Test.YteccpinilpkmiaaEs
namespace Go.Proofs.Yteccpinilpkmiaa
open Go Go.RowKit Go.Sort Go.Shelf
set_option maxHeartbeats 800000

/-- the first i elements of a row may have turned, the others are as they were -/
def BumpR (w0 : World) (v : Value) (L : List ByteArray) (i : Nat) (wr : World) : Prop :=
  Upd (fun b => v.ownBlock = some b) w0 wr ∧ (L ≠ [] → ∃ (g c : Nat) (cs : Array Value), v = .slice (some ⟨g, 0, none⟩) L.length c ∧ wr.heap[g]? = some (.cells cs 9 (0, 0)) ∧ ∀ (q : Nat) (x : ByteArray), i ≤ q → L[q]? = some x → cs[q]? = some (.string x))
theorem bump_start {w : World} {v : Value} {L : List ByteArray} (h : rowE elS w v L) : BumpR w v L 0 w := by
  refine ⟨upd_refl, fun hne => ?_⟩
  rcases rowE_cases h with ⟨_, h2⟩ | ⟨g, cap, cur, rfl, hg, _, _, _, h4⟩
  · exact absurd h2 hne
  · refine ⟨g, cap, cur, rfl, hg, fun q x _ hx => ?_⟩
    have := rowS_cell h hx
    rw [block_cell hg] at this
    exact this
theorem bump_step {w0 wr : World} {L : List ByteArray} {i g c n : Nat} (y : ByteArray) (h : BumpR w0 (.slice (some ⟨g, 0, none⟩) n c) L i wr) : BumpR w0 (.slice (some ⟨g, 0, none⟩) n c) L (i + 1) (wr.setCell ⟨g, i, none⟩ (.string y)) := by
  obtain ⟨h1, h2⟩ := h
  refine ⟨upd_trans h1 (upd_setCell _) (fun b _ e => by subst e; rfl), fun hne => ?_⟩
  obtain ⟨g', c', cs, hv, hg, hc⟩ := h2 hne
  simp only [Value.slice.injEq, Option.some.injEq, Addr.mk.injEq, and_true] at hv
  obtain ⟨rfl, rfl, rfl⟩ := hv
  refine ⟨g, c, _, rfl, heap_setCell_at hg, fun q x hq hx => ?_⟩
  rw [Array.getElem?_setIfInBounds_ne (by omega)]
  exact hc q x (by omega) hx
theorem bump_at {w0 wr : World} {v : Value} {L : List ByteArray} {i : Nat} {x : ByteArray} (h : BumpR w0 v L i wr) (hx : L[i]? = some x) : ∃ g c, v = .slice (some ⟨g, 0, none⟩) L.length c ∧ wr.cell? ⟨g, i, none⟩ = some (.string x) ∧ wr.frozen? ⟨g, i, none⟩ = false ∧ g < wr.heap.size := by
  obtain ⟨g, c, cs, hv, hg, hc⟩ := h.2 (fun e => by rw [e] at hx; simp at hx)
  exact ⟨g, c, hv, (block_cell hg i).trans (hc i x (Nat.le_refl _) hx), block_frozen hg i, block_lt hg⟩

def nameN : Nat → ByteArray
  | 0 => kR
  | 1 => kI
  | _ => kD
def kindAt (k : ByteArray) : Nat → Int
  | 0 => -1
  | j + 1 => if nameN j = k then (j : Int) else kindAt k j
theorem kind_R : kindAt kR 3 = 0 := by decide
theorem kind_I : kindAt kI 3 = 1 := by decide
theorem kind_D : kindAt kD 3 = 2 := by decide
theorem kind_none {k : ByteArray} (h : knows k = false) : kindAt k 3 = -1 := by
  simp only [knows, decide_eq_false_iff_not, not_or] at h
  obtain ⟨h1, h2, h3⟩ := h
  simp only [kindAt, nameN]
  rw [if_neg (fun e => h3 e.symm), if_neg (fun e => h2 e.symm), if_neg (fun e => h1 e.symm)]
theorem next_eq {k : ByteArray} (h : knows k = true) (P L : List ByteArray) : toldL k (sortS P) (sortS L) = refNextL (kindAt k 3) P L := by
  simp only [knows, decide_eq_true_eq] at h
  rcases h with rfl | rfl | rfl
  · rw [told_R, kind_R, refNextL, if_neg (by decide), if_neg (by decide), sortS_eq]
  · rw [told_I, kind_I, refNextL, if_pos rfl, ← less_sorted]
  · rw [told_D, kind_D, refNextL, if_neg (by decide), if_pos rfl, ← less_sorted]
theorem kind_small (k : ByteArray) : ∀ j, j ≤ 3 → -1 ≤ kindAt k j ∧ kindAt k j ≤ 2 := by
  intro j hj
  induction j with
  | zero => simp [kindAt]
  | succ j ih =>
    simp only [kindAt]
    split
    · omega
    · exact ih (by omega)
theorem told_mem {k : ByteArray} {A B : List ByteArray} {P : ByteArray → Prop} (ha : ∀ x ∈ A, P x) (hb : ∀ x ∈ B, P x) : ∀ x ∈ toldL k A B, P x := by
  intro x hx
  unfold toldL at hx
  split at hx
  · exact hb x hx
  split at hx
  · rw [less_eq] at hx; exact hb x (mem_cnt.2 (by have := mem_cnt.1 hx; rw [cnt_lessR] at this; omega))
  split at hx
  · rw [less_eq] at hx; exact ha x (mem_cnt.2 (by have := mem_cnt.1 hx; rw [cnt_lessR] at this; omega))
  · cases hx
theorem told_len {k : ByteArray} {A B : List ByteArray} {n : Nat} (ha : A.length ≤ n) (hb : B.length ≤ n) : (toldL k A B).length ≤ n := by
  unfold toldL
  split
  · exact hb
  split
  · rw [less_eq]; exact Nat.le_trans (lessR_len _ _) hb
  split
  · rw [less_eq]; exact Nat.le_trans (lessR_len _ _) ha
  · exact Nat.zero_le _
end Go.Proofs.Yteccpinilpkmiaa
