/- Plain: the states that some lead to freely, by a list of those that wait. -/
import Derived.Test.YtiabmdboacpmcaaPa
import Derived.Test.YtiabmdboacpmcaaPm
namespace Go.Proofs.Ytiabmdboacpmcaa

def Reach0 (E : List Mv) (S : List Nat) (s : Nat) : Prop := ∃ s0 ∈ S, Way E s0 [] s
theorem way_snoc_free {E : List Mv} {s d e : Nat} {w : List Sy} (h : Way E s w d) (hm : (d, none, e) ∈ E) : Way E s w e := by
  have := h.trans (Way.one hm)
  simpa using this
structure CloInv (E : List Mv) (n : Nat) (S out wait : List Nat) : Prop where
  ltO : ∀ s ∈ out, s < n
  ltW : ∀ s ∈ wait, s < n
  nodup : out.Nodup
  so : ∀ s ∈ out, Reach0 E S s
  sw : ∀ s ∈ wait, Reach0 E S s
  cover : ∀ s ∈ S, s ∈ out ∨ s ∈ wait
  clo : ∀ s ∈ out, ∀ d, (s, none, d) ∈ E → d ∈ out ∨ d ∈ wait
theorem clo_start {E : List Mv} {n : Nat} {S : List Nat} (h : ∀ s ∈ S, s < n) : CloInv E n S [] S :=
  ⟨fun _ h => (by cases h), h, List.nodup_nil, fun _ h => (by cases h), fun s hs => ⟨s, hs, .nil s⟩, fun s hs => .inr hs, fun _ h => (by cases h)⟩
theorem clo_seen {E : List Mv} {n s : Nat} {S out wait : List Nat} (h : CloInv E n S out (wait ++ [s])) (hs : s ∈ out) : CloInv E n S out wait := by
  refine ⟨h.ltO, fun x hx => h.ltW x (List.mem_append_left _ hx), h.nodup, h.so, fun x hx => h.sw x (List.mem_append_left _ hx), fun x hx => ?_, fun x hx d hd => ?_⟩
  · rcases h.cover x hx with h1 | h1
    · exact .inl h1
    · rcases List.mem_append.1 h1 with h2 | h2
      · exact .inr h2
      · rw [List.mem_singleton.1 h2]; exact .inl hs
  · rcases h.clo x hx d hd with h1 | h1
    · exact .inl h1
    · rcases List.mem_append.1 h1 with h2 | h2
      · exact .inr h2
      · rw [List.mem_singleton.1 h2]; exact .inl hs
theorem clo_new {E : List Mv} {n s : Nat} {S out wait ds : List Nat} (h : CloInv E n S out (wait ++ [s])) (hs : s ∉ out) (hds : ∀ d, d ∈ ds ↔ (s, none, d) ∈ E) (hn : ∀ d ∈ ds, d < n) : CloInv E n S (out ++ [s]) (wait ++ ds) := by
  have hsr : Reach0 E S s := h.sw s (by simp)
  refine ⟨fun x hx => ?_, fun x hx => ?_, ?_, fun x hx => ?_, fun x hx => ?_, fun x hx => ?_, fun x hx d hd => ?_⟩
  · rcases List.mem_append.1 hx with h1 | h1
    · exact h.ltO x h1
    · rw [List.mem_singleton.1 h1]; exact h.ltW s (by simp)
  · rcases List.mem_append.1 hx with h1 | h1
    · exact h.ltW x (List.mem_append_left _ h1)
    · exact hn x h1
  · rw [List.nodup_append]
    exact ⟨h.nodup, by simp, fun a ha b hb => by rw [List.mem_singleton.1 hb]; exact fun e => hs (e ▸ ha)⟩
  · rcases List.mem_append.1 hx with h1 | h1
    · exact h.so x h1
    · rw [List.mem_singleton.1 h1]; exact hsr
  · rcases List.mem_append.1 hx with h1 | h1
    · exact h.sw x (List.mem_append_left _ h1)
    · obtain ⟨s0, h2, h3⟩ := hsr
      exact ⟨s0, h2, way_snoc_free h3 ((hds x).1 h1)⟩
  · rcases h.cover x hx with h1 | h1
    · exact .inl (List.mem_append_left _ h1)
    · rcases List.mem_append.1 h1 with h2 | h2
      · exact .inr (List.mem_append_left _ h2)
      · exact .inl (List.mem_append_right _ h2)
  · rcases List.mem_append.1 hx with h0 | h0
    · rcases h.clo x h0 d hd with h1 | h1
      · exact .inl (List.mem_append_left _ h1)
      · rcases List.mem_append.1 h1 with h2 | h2
        · exact .inr (List.mem_append_left _ h2)
        · exact .inl (List.mem_append_right _ h2)
    · rw [List.mem_singleton.1 h0] at hd
      exact .inr (List.mem_append_right _ ((hds d).2 hd))
theorem way_nil_ind {E : List Mv} {P : Nat → Prop} (hP : ∀ s d, P s → (s, none, d) ∈ E → P d) {s e : Nat} {w : List Sy} (h : Way E s w e) (hw : w = []) (hs : P s) : P e := by
  induction h with
  | nil => exact hs
  | free hm _ ih => exact ih hw (hP _ _ hs hm)
  | sym => cases hw
theorem clo_end {E : List Mv} {n : Nat} {S out : List Nat} (h : CloInv E n S out []) (s : Nat) : s ∈ out ↔ Reach0 E S s := by
  constructor
  · exact h.so s
  · rintro ⟨s0, h0, hw⟩
    have h1 : s0 ∈ out := by
      rcases h.cover s0 h0 with h | h
      · exact h
      · cases h
    exact way_nil_ind (P := fun x => x ∈ out) (fun x d hx hd => by
      rcases h.clo x hx d hd with h | h
      · exact h
      · cases h) hw rfl h1
theorem nodup_le : ∀ (n : Nat) (L : List Nat), L.Nodup → (∀ x ∈ L, x < n) → L.length ≤ n
  | 0, L, _, h => by
    cases L with
    | nil => exact Nat.le_refl _
    | cons x r => exact absurd (h x (List.mem_cons_self ..)) (Nat.not_lt_zero _)
  | n + 1, L, hn, h => by
    have h1 := nodup_le n (L.erase n) (hn.erase n) (fun x hx => by
      have h2 := hn.mem_erase_iff.1 hx
      have h3 := h x h2.2
      have h4 := h2.1
      omega)
    rw [List.length_erase] at h1
    split at h1 <;> omega
/-- what is told of states: they rise, and are just those -/
def IsClo (E : List Mv) (S L : List Nat) : Prop := L.Pairwise (· < ·) ∧ ∀ s, s ∈ L ↔ Reach0 E S s
theorem isClo_sort {E : List Mv} {n : Nat} {S out : List Nat} (h : CloInv E n S out []) : IsClo E S (sortN out) := by
  refine ⟨?_, fun s => ((sortN_perm out).mem_iff).trans (clo_end h s)⟩
  have h1 := sortN_sorted out
  have h2 : (sortN out).Nodup := (sortN_perm out).nodup_iff.2 h.nodup
  refine (List.Pairwise.and h1 h2).imp (fun ⟨a, b⟩ => by omega)
end Go.Proofs.Ytiabmdboacpmcaa
