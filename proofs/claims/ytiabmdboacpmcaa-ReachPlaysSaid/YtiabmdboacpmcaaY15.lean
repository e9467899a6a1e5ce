/- Texts joined: Pm Pn. -/
import Derived.Sort.OwnSortedInts
import Derived.Lib.OwnBridge
import Derived.Test.YtiabmdboacpmcaaY07
import Derived.Test.YtiabmdboacpmcaaY14
import Derived.Test.YtiabmdboacpmcaaY01
/- Rows of numbers from 0 on: sorted, copied, looked through. -/
namespace Go.Proofs.Ytiabmdboacpmcaa
open Go Go.RowKit Go.Sort
set_option maxHeartbeats 800000

def elN : El Nat := ⟨fun n => [.int .i64 (n : Int)], 1, 3, by decide, fun _ => rfl, fun x u hu => by rw [List.mem_singleton.1 hu]; rfl⟩
noncomputable def tpN : Tp Try.prog 52 elN := ⟨(Try.prog.info? 3).get (by kernel_rfl), .int .i64 0, 8, Try.underlying52, by kernel_rfl, by kernel_rfl, by kernel_rfl, by kernel_rfl, rfl, by decide⟩
theorem rowN_cell {w : World} {g n c : Nat} {L : List Nat} (h : rowE elN w (.slice (some ⟨g, 0, none⟩) n c) L) {i : Nat} {x : Nat} (hx : L[i]? = some x) : w.cell? ⟨g, i, none⟩ = some (.int .i64 (x : Int)) := by
  have := rowE_cell h hx (j := 0) (u := .int .i64 (x : Int)) rfl
  simpa [elN] using this
/-- numbers as they lie, anywhere -/
def RdN (w : World) (v : Value) (L : List Nat) : Prop := ∃ A c, v = .slice A L.length c ∧ L.length ≤ c ∧ (L ≠ [] → ∃ b off, A = some ⟨b, off, none⟩ ∧ b < w.heap.size ∧ ∀ (i : Nat) (x : Nat), L[i]? = some x → w.cell? ⟨b, off + i, none⟩ = some (.int .i64 (x : Int)))
theorem rdN_row {w : World} {v : Value} {L : List Nat} (h : rowE elN w v L) : RdN w v L := by
  obtain ⟨A, c, rfl⟩ := rowE_form h
  refine ⟨A, c, rfl, (rowE_cap h).2, fun hne => ?_⟩
  obtain ⟨g, rfl, hg⟩ := rowE_some h hne
  exact ⟨g, 0, rfl, hg, fun i x hx => by rw [Nat.zero_add]; exact rowN_cell h hx⟩
theorem rdN_ext {w w' : World} {v : Value} {L : List Nat} (h : RdN w v L) (hE : Ext w w') : RdN w' v L := by
  obtain ⟨A, c, h1, h2, h3⟩ := h
  refine ⟨A, c, h1, h2, fun hne => ?_⟩
  obtain ⟨b, off, h4, h5, h6⟩ := h3 hne
  exact ⟨b, off, h4, ext_lt hE h5, fun i x hx => (ext_cell hE _ _ h5).trans (h6 i x hx)⟩
theorem flatN (L : List Nat) : flatE elN L = (L.map fun n : Nat => (n : Int)).map (Value.int .i64) := by
  induction L with
  | nil => rfl
  | cons x L ih => rw [flatE_cons, ih]; rfl
theorem castN_getD {L : List Nat} {j : Nat} (hj : j < (L.map fun n : Nat => (n : Int)).length) : ∃ x, L[j]? = some x ∧ (L.map fun n : Nat => (n : Int)).getD j 0 = (x : Int) := by
  have hj' : j < L.length := by simpa using hj
  exact ⟨L[j], List.getElem?_eq_getElem hj', by simp [List.getD, hj']⟩

/-- what sorting makes -/
def sortN (L : List Nat) : List Nat := L.mergeSort fun x y => decide (x ≤ y)
theorem sortN_cast (L : List Nat) : (sortN L).map (fun n : Nat => (n : Int)) = (L.map fun n : Nat => (n : Int)).mergeSort fun x y => decide (x ≤ y) := by
  unfold sortN
  refine List.map_mergeSort (fun a _ b _ => ?_)
  simp
theorem sortN_length (L : List Nat) : (sortN L).length = L.length := by simp [sortN]
theorem sortN_perm (L : List Nat) : (sortN L).Perm L := List.mergeSort_perm _ _
theorem sortN_sorted (L : List Nat) : (sortN L).Pairwise (· ≤ ·) := by
  have := List.pairwise_mergeSort (le := fun x y : Nat => decide (x ≤ y)) (fun a b c h1 h2 => by simp at *; omega) (fun a b => by simp; omega) L
  exact this.imp (fun h => by simpa using h)
theorem updN_sort {w : World} {g n : Nat} {d : Array Int} {os : Array Obj} : Upd (fun b => b = g) w (grow (putRow (Value.int .i64) (Sort.ahead w n) g 0 d) os) := by
  refine ⟨rfl, rfl, rfl, by simp [grow, putRow, mapBlock, Sort.ahead], fun k hk hn => ?_⟩
  have h2 : k ≠ g := hn
  rw [heap_grow_old _ _ (by simpa using hk)]
  simp only [putRow, mapBlock, Sort.ahead, Array.getElem?_modify]
  rw [if_neg (fun e => h2 e.symm)]
def SortNPost (H : Nat) (v : Value) (L : List Nat) (w : World) (e : Ending) (w' : World) : Prop :=
  e = .returned (.tuple #[]) ∧ rowF elN H (sortN L) v w' ∧ Upd (fun b => v.ownBlock = some b) w w'
theorem sortN_any (H : Nat) (v : Value) (L : List Nat) (w : World) (h : rowF elN H L v w) (hm : L.length ≤ 1000000) : Calls Try.prog 74 #[v] w (SortNPost H v L w) := by
  rcases rowE_cases h.1 with ⟨rfl, rfl⟩ | ⟨g, cap, cur, rfl, hg, h1, h2, h3, h4⟩
  · refine (Try.slices_Sort_int_none none 0 w).mono ?_
    rintro e w' ⟨rfl, rfl⟩
    exact ⟨rfl, (by have : sortN [] = [] := by simp [sortN]
                    rw [this]; exact rowF_nil _ _), upd_refl⟩
  · have hl : (L.map fun n : Nat => (n : Int)).length = L.length := by simp
    have hH : Holds (Value.int .i64) w g 0 (L.map fun n : Nat => (n : Int)).toArray := by
      intro j hj
      have hj' : j < L.length := by simpa using hj
      have hx : L[j]? = some L[j] := List.getElem?_eq_getElem hj'
      have hc := rowN_cell h.1 hx
      rw [Nat.zero_add]
      refine ⟨?_, block_frozen hg j⟩
      rw [hc]
      simp [getElem!_pos, hj']
    have hs := Try.slices_Sort_int g 0 cap (L.map fun n : Nat => (n : Int)) w hH (block_lt hg) (by rw [hl]; omega)
    rw [hl] at hs
    refine hs.mono ?_
    rintro e w' ⟨rfl, n, os, rfl⟩
    have hlen : ((L.map fun n : Nat => (n : Int)).mergeSort fun x y => decide (x ≤ y)).length = (L.map fun n : Nat => (n : Int)).length := by simp
    have hown := ownsRow_sortedI (n := n) (os := os) (base := H) hlen (h.2 g rfl) hg (by rw [hl]; exact h1) h2 (by rw [h3]; rfl)
    refine ⟨rfl, ?_, upd_mono updN_sort (fun b _ e => by rw [e]; rfl)⟩
    rw [hl] at hown
    exact row_base hown (sortN_length L).symm (by rw [flatN, sortN_cast]) (Nat.le_refl _)
theorem cloneN_any (v : Value) (L : List Nat) (w : World) (h : RdN w v L) (hm : L.length ≤ 1000000000) :
    Calls Try.prog 90 #[v] w fun e w' => ∃ A c, e = .returned (.slice A L.length c) ∧ rowF elN w.heap.size L (.slice A L.length c) w' ∧ Ext w w' := by
  obtain ⟨A, c, rfl, hc, hA⟩ := h
  by_cases hne : L = []
  · subst hne
    cases A with
    | none =>
      refine (Try.slices_Clone_int_nil 0 c w).mono ?_
      rintro e w' ⟨rfl, rfl⟩
      exact ⟨none, 0, rfl, rowF_nil _ _, ext_refl _⟩
    | some a =>
      refine (Try.slices_Clone_int_zero a c w).mono ?_
      rintro e w' ⟨v', rfl, h1, h2, h3⟩
      have hr : rowF elN w.heap.size [] v' w' := row_base (E := elN) h1 rfl rfl (Nat.le_refl _)
      obtain ⟨A', c', rfl⟩ := rowE_form hr.1
      exact ⟨A', c', rfl, hr, h3⟩
  · obtain ⟨b, off, rfl, hb, hcell⟩ := hA hne
    have hl : (L.map fun n : Nat => (n : Int)).length = L.length := by simp
    refine (Try.slices_Clone_int b off L.length c (L.map fun n : Nat => (n : Int)) w (by rw [hl]; exact Nat.le_refl _) (by omega) (fun j hj => by
      obtain ⟨x, hx, he⟩ := castN_getD hj
      rw [he]
      exact hcell j x hx)).mono ?_
    rintro e w' ⟨v', rfl, h1, h2, h3⟩
    have hr : rowF elN w.heap.size L v' w' := row_base (E := elN) h1 rfl (by rw [← hl, List.take_length, flatN]) (Nat.le_refl _)
    obtain ⟨A', c', rfl⟩ := rowE_form hr.1
    exact ⟨A', c', rfl, hr, h3⟩
theorem containsN_any (v : Value) (L : List Nat) (x : Nat) (w : World) (h : RdN w v L) (hm : L.length ≤ 1000000000) :
    Calls Try.prog 64 #[v, .int .i64 (x : Int)] w fun e w' => e = .returned (.bool (decide (x ∈ L))) ∧ w' = w := by
  obtain ⟨A, c, rfl, hc, hA⟩ := h
  by_cases hne : L = []
  · subst hne
    refine (Try.slices_Contains_int_empty A c x w).mono ?_
    rintro e w' ⟨rfl, rfl⟩
    exact ⟨by simp, rfl⟩
  · obtain ⟨b, off, rfl, hb, hcell⟩ := hA hne
    have hl : (L.map fun n : Nat => (n : Int)).length = L.length := by simp
    refine (Try.slices_Contains_int b off L.length c (L.map fun n : Nat => (n : Int)) x w (by rw [hl]; exact Nat.le_refl _) (by omega) (fun j hj => by
      obtain ⟨y, hy, he⟩ := castN_getD hj
      rw [he]
      exact hcell j y hy)).mono ?_
    rintro e w' ⟨rfl, rfl⟩
    refine ⟨?_, rfl⟩
    rw [← hl, List.take_length]
    congr 2
    rw [Bool.eq_iff_iff]
    simp only [List.contains_eq_mem, List.mem_map, decide_eq_true_eq]
    constructor
    · rintro ⟨a, ha, he⟩
      have : a = x := by omega
      exact this ▸ ha
    · exact fun h => ⟨x, h, rfl⟩
end Go.Proofs.Ytiabmdboacpmcaa
/- Plain: the states that some lead to freely, by a list of those that wait. -/
namespace Go.Proofs.Ytiabmdboacpmcaa

def Reach0 (E : List Mv) (S : List Nat) (s : Nat) : Prop := ∃ s0 ∈ S, Way E s0 [] s
theorem way_snoc_free {E : List Mv} {s d e : Nat} {w : List Sy} (h : Way E s w d) (hm : (d, none, e) ∈ E) : Way E s w e := by
  have := h.trans (Way.one hm)
  simpa using this
structure CloInv (E : List Mv) (n : Nat) (S out wait : List Nat) : Prop where
  ltO : ∀ s ∈ out, s < n
  ltW : ∀ s ∈ wait, s < n
  nodup : out.Nodup
  so : ∀ s ∈ out, Reach0 E S s
  sw : ∀ s ∈ wait, Reach0 E S s
  cover : ∀ s ∈ S, s ∈ out ∨ s ∈ wait
  clo : ∀ s ∈ out, ∀ d, (s, none, d) ∈ E → d ∈ out ∨ d ∈ wait
theorem clo_start {E : List Mv} {n : Nat} {S : List Nat} (h : ∀ s ∈ S, s < n) : CloInv E n S [] S :=
  ⟨fun _ h => (by cases h), h, List.nodup_nil, fun _ h => (by cases h), fun s hs => ⟨s, hs, .nil s⟩, fun s hs => .inr hs, fun _ h => (by cases h)⟩
theorem clo_seen {E : List Mv} {n s : Nat} {S out wait : List Nat} (h : CloInv E n S out (wait ++ [s])) (hs : s ∈ out) : CloInv E n S out wait := by
  refine ⟨h.ltO, fun x hx => h.ltW x (List.mem_append_left _ hx), h.nodup, h.so, fun x hx => h.sw x (List.mem_append_left _ hx), fun x hx => ?_, fun x hx d hd => ?_⟩
  · rcases h.cover x hx with h1 | h1
    · exact .inl h1
    · rcases List.mem_append.1 h1 with h2 | h2
      · exact .inr h2
      · rw [List.mem_singleton.1 h2]; exact .inl hs
  · rcases h.clo x hx d hd with h1 | h1
    · exact .inl h1
    · rcases List.mem_append.1 h1 with h2 | h2
      · exact .inr h2
      · rw [List.mem_singleton.1 h2]; exact .inl hs
theorem clo_new {E : List Mv} {n s : Nat} {S out wait ds : List Nat} (h : CloInv E n S out (wait ++ [s])) (hs : s ∉ out) (hds : ∀ d, d ∈ ds ↔ (s, none, d) ∈ E) (hn : ∀ d ∈ ds, d < n) : CloInv E n S (out ++ [s]) (wait ++ ds) := by
  have hsr : Reach0 E S s := h.sw s (by simp)
  refine ⟨fun x hx => ?_, fun x hx => ?_, ?_, fun x hx => ?_, fun x hx => ?_, fun x hx => ?_, fun x hx d hd => ?_⟩
  · rcases List.mem_append.1 hx with h1 | h1
    · exact h.ltO x h1
    · rw [List.mem_singleton.1 h1]; exact h.ltW s (by simp)
  · rcases List.mem_append.1 hx with h1 | h1
    · exact h.ltW x (List.mem_append_left _ h1)
    · exact hn x h1
  · rw [List.nodup_append]
    exact ⟨h.nodup, by simp, fun a ha b hb => by rw [List.mem_singleton.1 hb]; exact fun e => hs (e ▸ ha)⟩
  · rcases List.mem_append.1 hx with h1 | h1
    · exact h.so x h1
    · rw [List.mem_singleton.1 h1]; exact hsr
  · rcases List.mem_append.1 hx with h1 | h1
    · exact h.sw x (List.mem_append_left _ h1)
    · obtain ⟨s0, h2, h3⟩ := hsr
      exact ⟨s0, h2, way_snoc_free h3 ((hds x).1 h1)⟩
  · rcases h.cover x hx with h1 | h1
    · exact .inl (List.mem_append_left _ h1)
    · rcases List.mem_append.1 h1 with h2 | h2
      · exact .inr (List.mem_append_left _ h2)
      · exact .inl (List.mem_append_right _ h2)
  · rcases List.mem_append.1 hx with h0 | h0
    · rcases h.clo x h0 d hd with h1 | h1
      · exact .inl (List.mem_append_left _ h1)
      · rcases List.mem_append.1 h1 with h2 | h2
        · exact .inr (List.mem_append_left _ h2)
        · exact .inl (List.mem_append_right _ h2)
    · rw [List.mem_singleton.1 h0] at hd
      exact .inr (List.mem_append_right _ ((hds d).2 hd))
theorem way_nil_ind {E : List Mv} {P : Nat → Prop} (hP : ∀ s d, P s → (s, none, d) ∈ E → P d) {s e : Nat} {w : List Sy} (h : Way E s w e) (hw : w = []) (hs : P s) : P e := by
  induction h with
  | nil => exact hs
  | free hm _ ih => exact ih hw (hP _ _ hs hm)
  | sym => cases hw
theorem clo_end {E : List Mv} {n : Nat} {S out : List Nat} (h : CloInv E n S out []) (s : Nat) : s ∈ out ↔ Reach0 E S s := by
  constructor
  · exact h.so s
  · rintro ⟨s0, h0, hw⟩
    have h1 : s0 ∈ out := by
      rcases h.cover s0 h0 with h | h
      · exact h
      · cases h
    exact way_nil_ind (P := fun x => x ∈ out) (fun x d hx hd => by
      rcases h.clo x hx d hd with h | h
      · exact h
      · cases h) hw rfl h1
theorem nodup_le : ∀ (n : Nat) (L : List Nat), L.Nodup → (∀ x ∈ L, x < n) → L.length ≤ n
  | 0, L, _, h => by
    cases L with
    | nil => exact Nat.le_refl _
    | cons x r => exact absurd (h x (List.mem_cons_self ..)) (Nat.not_lt_zero _)
  | n + 1, L, hn, h => by
    have h1 := nodup_le n (L.erase n) (hn.erase n) (fun x hx => by
      have h2 := hn.mem_erase_iff.1 hx
      have h3 := h x h2.2
      have h4 := h2.1
      omega)
    rw [List.length_erase] at h1
    split at h1 <;> omega
/-- what is told of states: they rise, and are just those -/
def IsClo (E : List Mv) (S L : List Nat) : Prop := L.Pairwise (· < ·) ∧ ∀ s, s ∈ L ↔ Reach0 E S s
theorem isClo_sort {E : List Mv} {n : Nat} {S out : List Nat} (h : CloInv E n S out []) : IsClo E S (sortN out) := by
  refine ⟨?_, fun s => ((sortN_perm out).mem_iff).trans (clo_end h s)⟩
  have h1 := sortN_sorted out
  have h2 : (sortN out).Nodup := (sortN_perm out).nodup_iff.2 h.nodup
  refine (List.Pairwise.and h1 h2).imp (fun ⟨a, b⟩ => by omega)
end Go.Proofs.Ytiabmdboacpmcaa
