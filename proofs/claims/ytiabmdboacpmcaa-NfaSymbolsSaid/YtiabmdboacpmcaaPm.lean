/- Rows of numbers from 0 on: sorted, copied, looked through. -/
import Derived.Sort.OwnSortedInts
import Derived.Lib.OwnBridge
import Derived.Test.YtiabmdboacpmcaaSh
import Derived.Test.YtiabmdboacpmcaaPf
namespace Go.Proofs.Ytiabmdboacpmcaa
open Go Go.RowKit Go.Sort
set_option maxHeartbeats 800000

def elN : El Nat := ⟨fun n => [.int .i64 (n : Int)], 1, 3, by decide, fun _ => rfl, fun x u hu => by rw [List.mem_singleton.1 hu]; rfl⟩
noncomputable def tpN : Tp Try.prog 52 elN := ⟨(Try.prog.info? 3).get (by kernel_rfl), .int .i64 0, 8, Try.underlying52, by kernel_rfl, by kernel_rfl, by kernel_rfl, by kernel_rfl, rfl, by decide⟩
theorem rowN_cell {w : World} {g n c : Nat} {L : List Nat} (h : rowE elN w (.slice (some ⟨g, 0, none⟩) n c) L) {i : Nat} {x : Nat} (hx : L[i]? = some x) : w.cell? ⟨g, i, none⟩ = some (.int .i64 (x : Int)) := by
  have := rowE_cell h hx (j := 0) (u := .int .i64 (x : Int)) rfl
  simpa [elN] using this
/-- numbers as they lie, anywhere -/
def RdN (w : World) (v : Value) (L : List Nat) : Prop := ∃ A c, v = .slice A L.length c ∧ L.length ≤ c ∧ (L ≠ [] → ∃ b off, A = some ⟨b, off, none⟩ ∧ b < w.heap.size ∧ ∀ (i : Nat) (x : Nat), L[i]? = some x → w.cell? ⟨b, off + i, none⟩ = some (.int .i64 (x : Int)))
theorem rdN_row {w : World} {v : Value} {L : List Nat} (h : rowE elN w v L) : RdN w v L := by
  obtain ⟨A, c, rfl⟩ := rowE_form h
  refine ⟨A, c, rfl, (rowE_cap h).2, fun hne => ?_⟩
  obtain ⟨g, rfl, hg⟩ := rowE_some h hne
  exact ⟨g, 0, rfl, hg, fun i x hx => by rw [Nat.zero_add]; exact rowN_cell h hx⟩
theorem rdN_ext {w w' : World} {v : Value} {L : List Nat} (h : RdN w v L) (hE : Ext w w') : RdN w' v L := by
  obtain ⟨A, c, h1, h2, h3⟩ := h
  refine ⟨A, c, h1, h2, fun hne => ?_⟩
  obtain ⟨b, off, h4, h5, h6⟩ := h3 hne
  exact ⟨b, off, h4, ext_lt hE h5, fun i x hx => (ext_cell hE _ _ h5).trans (h6 i x hx)⟩
theorem flatN (L : List Nat) : flatE elN L = (L.map fun n : Nat => (n : Int)).map (Value.int .i64) := by
  induction L with
  | nil => rfl
  | cons x L ih => rw [flatE_cons, ih]; rfl
theorem castN_getD {L : List Nat} {j : Nat} (hj : j < (L.map fun n : Nat => (n : Int)).length) : ∃ x, L[j]? = some x ∧ (L.map fun n : Nat => (n : Int)).getD j 0 = (x : Int) := by
  have hj' : j < L.length := by simpa using hj
  exact ⟨L[j], List.getElem?_eq_getElem hj', by simp [List.getD, hj']⟩

/-- what sorting makes -/
def sortN (L : List Nat) : List Nat := L.mergeSort fun x y => decide (x ≤ y)
theorem sortN_cast (L : List Nat) : (sortN L).map (fun n : Nat => (n : Int)) = (L.map fun n : Nat => (n : Int)).mergeSort fun x y => decide (x ≤ y) := by
  unfold sortN
  refine List.map_mergeSort (fun a _ b _ => ?_)
  simp
theorem sortN_length (L : List Nat) : (sortN L).length = L.length := by simp [sortN]
theorem sortN_perm (L : List Nat) : (sortN L).Perm L := List.mergeSort_perm _ _
theorem sortN_sorted (L : List Nat) : (sortN L).Pairwise (· ≤ ·) := by
  have := List.pairwise_mergeSort (le := fun x y : Nat => decide (x ≤ y)) (fun a b c h1 h2 => by simp at *; omega) (fun a b => by simp; omega) L
  exact this.imp (fun h => by simpa using h)
theorem updN_sort {w : World} {g n : Nat} {d : Array Int} {os : Array Obj} : Upd (fun b => b = g) w (grow (putRow (Value.int .i64) (Sort.ahead w n) g 0 d) os) := by
  refine ⟨rfl, rfl, rfl, by simp [grow, putRow, mapBlock, Sort.ahead], fun k hk hn => ?_⟩
  have h2 : k ≠ g := hn
  rw [heap_grow_old _ _ (by simpa using hk)]
  simp only [putRow, mapBlock, Sort.ahead, Array.getElem?_modify]
  rw [if_neg (fun e => h2 e.symm)]
def SortNPost (H : Nat) (v : Value) (L : List Nat) (w : World) (e : Ending) (w' : World) : Prop :=
  e = .returned (.tuple #[]) ∧ rowF elN H (sortN L) v w' ∧ Upd (fun b => v.ownBlock = some b) w w'
theorem sortN_any (H : Nat) (v : Value) (L : List Nat) (w : World) (h : rowF elN H L v w) (hm : L.length ≤ 1000000) : Calls Try.prog 74 #[v] w (SortNPost H v L w) := by
  rcases rowE_cases h.1 with ⟨rfl, rfl⟩ | ⟨g, cap, cur, rfl, hg, h1, h2, h3, h4⟩
  · refine (Try.slices_Sort_int_none none 0 w).mono ?_
    rintro e w' ⟨rfl, rfl⟩
    exact ⟨rfl, (by have : sortN [] = [] := by simp [sortN]
                    rw [this]; exact rowF_nil _ _), upd_refl⟩
  · have hl : (L.map fun n : Nat => (n : Int)).length = L.length := by simp
    have hH : Holds (Value.int .i64) w g 0 (L.map fun n : Nat => (n : Int)).toArray := by
      intro j hj
      have hj' : j < L.length := by simpa using hj
      have hx : L[j]? = some L[j] := List.getElem?_eq_getElem hj'
      have hc := rowN_cell h.1 hx
      rw [Nat.zero_add]
      refine ⟨?_, block_frozen hg j⟩
      rw [hc]
      simp [getElem!_pos, hj']
    have hs := Try.slices_Sort_int g 0 cap (L.map fun n : Nat => (n : Int)) w hH (block_lt hg) (by rw [hl]; omega)
    rw [hl] at hs
    refine hs.mono ?_
    rintro e w' ⟨rfl, n, os, rfl⟩
    have hlen : ((L.map fun n : Nat => (n : Int)).mergeSort fun x y => decide (x ≤ y)).length = (L.map fun n : Nat => (n : Int)).length := by simp
    have hown := ownsRow_sortedI (n := n) (os := os) (base := H) hlen (h.2 g rfl) hg (by rw [hl]; exact h1) h2 (by rw [h3]; rfl)
    refine ⟨rfl, ?_, upd_mono updN_sort (fun b _ e => by rw [e]; rfl)⟩
    rw [hl] at hown
    exact row_base hown (sortN_length L).symm (by rw [flatN, sortN_cast]) (Nat.le_refl _)
theorem cloneN_any (v : Value) (L : List Nat) (w : World) (h : RdN w v L) (hm : L.length ≤ 1000000000) :
    Calls Try.prog 90 #[v] w fun e w' => ∃ A c, e = .returned (.slice A L.length c) ∧ rowF elN w.heap.size L (.slice A L.length c) w' ∧ Ext w w' := by
  obtain ⟨A, c, rfl, hc, hA⟩ := h
  by_cases hne : L = []
  · subst hne
    cases A with
    | none =>
      refine (Try.slices_Clone_int_nil 0 c w).mono ?_
      rintro e w' ⟨rfl, rfl⟩
      exact ⟨none, 0, rfl, rowF_nil _ _, ext_refl _⟩
    | some a =>
      refine (Try.slices_Clone_int_zero a c w).mono ?_
      rintro e w' ⟨v', rfl, h1, h2, h3⟩
      have hr : rowF elN w.heap.size [] v' w' := row_base (E := elN) h1 rfl rfl (Nat.le_refl _)
      obtain ⟨A', c', rfl⟩ := rowE_form hr.1
      exact ⟨A', c', rfl, hr, h3⟩
  · obtain ⟨b, off, rfl, hb, hcell⟩ := hA hne
    have hl : (L.map fun n : Nat => (n : Int)).length = L.length := by simp
    refine (Try.slices_Clone_int b off L.length c (L.map fun n : Nat => (n : Int)) w (by rw [hl]; exact Nat.le_refl _) (by omega) (fun j hj => by
      obtain ⟨x, hx, he⟩ := castN_getD hj
      rw [he]
      exact hcell j x hx)).mono ?_
    rintro e w' ⟨v', rfl, h1, h2, h3⟩
    have hr : rowF elN w.heap.size L v' w' := row_base (E := elN) h1 rfl (by rw [← hl, List.take_length, flatN]) (Nat.le_refl _)
    obtain ⟨A', c', rfl⟩ := rowE_form hr.1
    exact ⟨A', c', rfl, hr, h3⟩
theorem containsN_any (v : Value) (L : List Nat) (x : Nat) (w : World) (h : RdN w v L) (hm : L.length ≤ 1000000000) :
    Calls Try.prog 64 #[v, .int .i64 (x : Int)] w fun e w' => e = .returned (.bool (decide (x ∈ L))) ∧ w' = w := by
  obtain ⟨A, c, rfl, hc, hA⟩ := h
  by_cases hne : L = []
  · subst hne
    refine (Try.slices_Contains_int_empty A c x w).mono ?_
    rintro e w' ⟨rfl, rfl⟩
    exact ⟨by simp, rfl⟩
  · obtain ⟨b, off, rfl, hb, hcell⟩ := hA hne
    have hl : (L.map fun n : Nat => (n : Int)).length = L.length := by simp
    refine (Try.slices_Contains_int b off L.length c (L.map fun n : Nat => (n : Int)) x w (by rw [hl]; exact Nat.le_refl _) (by omega) (fun j hj => by
      obtain ⟨y, hy, he⟩ := castN_getD hj
      rw [he]
      exact hcell j y hy)).mono ?_
    rintro e w' ⟨rfl, rfl⟩
    refine ⟨?_, rfl⟩
    rw [← hl, List.take_length]
    congr 2
    rw [Bool.eq_iff_iff]
    simp only [List.contains_eq_mem, List.mem_map, decide_eq_true_eq]
    constructor
    · rintro ⟨a, ha, he⟩
      have : a = x := by omega
      exact this ▸ ha
    · exact fun h => ⟨x, h, rfl⟩
end Go.Proofs.Ytiabmdboacpmcaa
