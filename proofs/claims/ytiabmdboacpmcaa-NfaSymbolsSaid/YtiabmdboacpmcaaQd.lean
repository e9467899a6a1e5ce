/- Plain law: the words of a path as the document parts them; a path turned. -/
import Derived.Test.YtiabmdboacpmcaaPx
namespace Go.Proofs.Ytiabmdboacpmcaa
open Go Go.RowKit Go.Sort

theorem starL_one {A : List Sy → Prop} {u : List Sy} (h : A u) : StarL A u := by
  have := StarL.cons h (StarL.nil (A := A))
  rwa [List.append_nil] at this
theorem starL_add {A : List Sy → Prop} {u v : List Sy} (h : StarL A u) (k : StarL A v) : StarL A (u ++ v) := by
  induction h with
  | nil => exact k
  | cons ha _ ih => rw [List.append_assoc]; exact .cons ha ih
theorem starL_mono {A B : List Sy → Prop} (hAB : ∀ w, A w → B w) {u : List Sy} (h : StarL A u) : StarL B u := by
  induction h with
  | nil => exact .nil
  | cons ha _ ih => exact .cons (hAB _ ha) ih
theorem starL_first {A : List Sy → Prop} {w : List Sy} (h : StarL A w) : w ≠ [] → ∃ u v, w = u ++ v ∧ u ≠ [] ∧ A u ∧ StarL A v := by
  induction h with
  | nil => intro h; exact absurd rfl h
  | @cons u v ha hv ih =>
    intro hne
    by_cases hu : u = []
    · subst hu
      rw [List.nil_append] at hne
      obtain ⟨u', v', h1, h2, h3, h4⟩ := ih hne
      exact ⟨u', v', by rw [List.nil_append]; exact h1, h2, h3, h4⟩
    · exact ⟨u, v, rfl, hu, ha, hv⟩
theorem starL_cut {A : List Sy → Prop} {w : List Sy} (hw : w ≠ []) : StarL A w ↔ ∃ k, 1 ≤ k ∧ k ≤ w.length ∧ A (w.take k) ∧ (k = w.length ∨ StarL A (w.drop k)) := by
  constructor
  · intro h
    obtain ⟨u, v, rfl, hu, ha, hv⟩ := starL_first h hw
    have := List.length_pos_iff.2 hu
    refine ⟨u.length, by omega, by rw [List.length_append]; omega, by rw [List.take_left]; exact ha, .inr (by rw [List.drop_left]; exact hv)⟩
  · rintro ⟨k, _, hk, ha, hv⟩
    rw [← List.take_append_drop k w]
    refine .cons ha ?_
    rcases hv with h | h
    · rw [h, List.drop_length]; exact .nil
    · exact h
theorem plusL_cut {A : List Sy → Prop} {w : List Sy} (hw : w ≠ []) : (∃ u v, w = u ++ v ∧ A u ∧ StarL A v) ↔ ∃ k, 1 ≤ k ∧ k ≤ w.length ∧ A (w.take k) ∧ (k = w.length ∨ ∃ u v, w.drop k = u ++ v ∧ A u ∧ StarL A v) := by
  constructor
  · rintro ⟨u, v, rfl, ha, hv⟩
    have hst : StarL A (u ++ v) := .cons ha hv
    obtain ⟨u', v', h1, hu, ha', hv'⟩ := starL_first hst hw
    have := List.length_pos_iff.2 hu
    rw [h1]
    refine ⟨u'.length, by omega, by rw [List.length_append]; omega, by rw [List.take_left]; exact ha', ?_⟩
    rw [List.drop_left, List.length_append]
    by_cases hv0 : v' = []
    · left; rw [hv0]; simp
    · right
      obtain ⟨a, b, h2, _, h3, h4⟩ := starL_first hv' hv0
      exact ⟨a, b, h2, h3, h4⟩
  · rintro ⟨k, _, hk, ha, hv⟩
    refine ⟨w.take k, w.drop k, (List.take_append_drop k w).symm, ha, ?_⟩
    rcases hv with h | ⟨u, v, h, h2, h3⟩
    · rw [h, List.drop_length]; exact .nil
    · rw [h]; exact .cons h2 h3
theorem wordsAlt_one (p : Tr) (w : List Sy) : WordsAlt [p] w ↔ Words p w := by simp [WordsAlt]
theorem wordsSeq_one (p : Tr) (w : List Sy) : WordsSeq [p] w ↔ Words p w := by
  simp only [WordsSeq]
  constructor
  · rintro ⟨u, v, rfl, h, rfl⟩; rwa [List.append_nil]
  · intro h; exact ⟨w, [], by simp, h, rfl⟩
theorem wordsSeq_cut (p : Tr) (r : List Tr) (w : List Sy) : WordsSeq (p :: r) w ↔ ∃ k, k ≤ w.length ∧ Words p (w.take k) ∧ WordsSeq r (w.drop k) := by
  rw [WordsSeq]
  constructor
  · rintro ⟨u, v, rfl, h, h2⟩
    exact ⟨u.length, by rw [List.length_append]; omega, by rw [List.take_left]; exact h, by rw [List.drop_left]; exact h2⟩
  · rintro ⟨k, _, h, h2⟩
    exact ⟨_, _, (List.take_append_drop k w).symm, h, h2⟩
theorem words_step (n : Int) (w : List Sy) : Words (.node 0 n []) w ↔ w = [(n, false)] := by simp [Words]
theorem words_back (n : Int) (w : List Sy) : Words (.node 1 n []) w ↔ w = [(n, true)] := by simp [Words]
theorem words_seq (n : Int) (ps : List Tr) (w : List Sy) : Words (.node 2 n ps) w ↔ WordsSeq ps w := by simp [Words]
theorem words_alt (n : Int) (ps : List Tr) (w : List Sy) : Words (.node 3 n ps) w ↔ WordsAlt ps w := by simp [Words]
theorem words_opt (n : Int) (p : Tr) (w : List Sy) : Words (.node 6 n [p]) w ↔ w = [] ∨ Words p w := by simp [Words, wordsAlt_one]
theorem alt1 (p : Tr) : WordsAlt [p] = Words p := funext fun w => propext (wordsAlt_one p w)
theorem words_star0 (n : Int) (p : Tr) (w : List Sy) : Words (.node 4 n [p]) w ↔ StarL (Words p) w := by simp [Words, alt1]
theorem words_plus0 (n : Int) (p : Tr) (w : List Sy) : Words (.node 5 n [p]) w ↔ ∃ u v, w = u ++ v ∧ Words p u ∧ StarL (Words p) v := by simp [Words, alt1]
theorem words_star_nil (n : Int) (p : Tr) : Words (.node 4 n [p]) [] := (words_star0 n p _).2 .nil
theorem words_plus_nil (n : Int) (p : Tr) : Words (.node 5 n [p]) [] ↔ Words p [] := by
  rw [words_plus0]
  constructor
  · rintro ⟨u, v, h, h2, -⟩
    obtain ⟨rfl, rfl⟩ := List.append_eq_nil_iff.1 h.symm
    exact h2
  · intro h; exact ⟨[], [], rfl, h, .nil⟩
theorem words_star (n : Int) (p : Tr) {w : List Sy} (hw : w ≠ []) : Words (.node 4 n [p]) w ↔ ∃ k, 1 ≤ k ∧ k ≤ w.length ∧ Words p (w.take k) ∧ (k = w.length ∨ Words (.node 4 n [p]) (w.drop k)) := by
  simp only [words_star0]
  exact starL_cut hw
theorem words_plus (n : Int) (p : Tr) {w : List Sy} (hw : w ≠ []) : Words (.node 5 n [p]) w ↔ ∃ k, 1 ≤ k ∧ k ≤ w.length ∧ Words p (w.take k) ∧ (k = w.length ∨ Words (.node 5 n [p]) (w.drop k)) := by
  simp only [words_plus0]
  exact plusL_cut hw
/-- words of parts, any of which may do -/
theorem wordsAlt_iff (ps : List Tr) (w : List Sy) : WordsAlt ps w ↔ ∃ p ∈ ps, Words p w := by
  induction ps with
  | nil => simp [WordsAlt]
  | cons p r ih => rw [WordsAlt, ih]; simp

/- A path turned. -/
mutual
def turnT : Tr → Tr
  | .node k n ps => .node (if k = 0 then 1 else if k = 1 then 0 else k) n (if k = 2 then (turnL ps).reverse else turnL ps)
def turnL : List Tr → List Tr
  | [] => []
  | p :: r => turnT p :: turnL r
end
theorem turnL_map : ∀ ps : List Tr, turnL ps = ps.map turnT
  | [] => rfl
  | p :: r => by rw [turnL, turnL_map r]; rfl
mutual
theorem turn_turn : ∀ t : Tr, turnT (turnT t) = t
  | .node k n ps => by
    rw [turnT, turnT]
    by_cases h0 : k = 0
    · subst h0; simp [turnL_turnL ps]
    by_cases h1 : k = 1
    · subst h1; simp [turnL_turnL ps]
    by_cases h2 : k = 2
    · subst h2
      simp [turnL_turnL ps, turnL_map]
      have := turnL_turnL ps
      simpa [turnL_map] using this
    · simp [h0, h1, h2, turnL_turnL ps]
theorem turnL_turnL : ∀ ps : List Tr, turnL (turnL ps) = ps
  | [] => rfl
  | p :: r => by rw [turnL, turnL, turn_turn p, turnL_turnL r]
end
def flipS (s : Sy) : Sy := (s.1, !s.2)
def flipW (w : List Sy) : List Sy := (w.map flipS).reverse
theorem flip_flip (w : List Sy) : flipW (flipW w) = w := by
  unfold flipW
  rw [List.map_reverse, List.reverse_reverse, List.map_map]
  conv => rhs; rw [← List.map_id w]
  congr 1
  funext s
  simp [flipS]
theorem flip_app (u v : List Sy) : flipW (u ++ v) = flipW v ++ flipW u := by simp [flipW]
theorem seq_app {a b : List Tr} {u v : List Sy} (h : WordsSeq a u) (k : WordsSeq b v) : WordsSeq (a ++ b) (u ++ v) := by
  induction a generalizing u with
  | nil => rw [WordsSeq] at h; subst h; exact k
  | cons p r ih =>
    rw [WordsSeq] at h
    obtain ⟨x, y, rfl, h1, h2⟩ := h
    rw [List.cons_append, WordsSeq]
    exact ⟨x, y ++ v, by rw [List.append_assoc], h1, ih h2⟩
theorem star_flip {A B : List Sy → Prop} (hAB : ∀ w, A w → B (flipW w)) {w : List Sy} (h : StarL A w) : StarL B (flipW w) := by
  induction h with
  | nil => exact .nil
  | cons ha _ ih => rw [flip_app]; exact starL_add ih (starL_one (hAB _ ha))
mutual
theorem turn_to : ∀ (t : Tr) (w : List Sy), Words t w → Words (turnT t) (flipW w)
  | .node k n ps, w, h => by
    rw [turnT, Words]
    rw [Words] at h
    by_cases h0 : k = 0
    · subst h0; simp at h ⊢; subst h; rfl
    by_cases h1 : k = 1
    · subst h1; simp at h ⊢; subst h; rfl
    by_cases h2 : k = 2
    · subst h2; simp at h ⊢; exact turnS_to ps w h
    by_cases h3 : k = 3
    · subst h3; simp at h ⊢; exact turnA_to ps w h
    by_cases h4 : k = 4
    · subst h4; simp at h ⊢; exact star_flip (turnA_to ps) h
    by_cases h5 : k = 5
    · subst h5
      simp at h ⊢
      obtain ⟨u, v, rfl, ha, hs⟩ := h
      rw [flip_app]
      have h6 := star_flip (turnA_to ps) hs
      have h7 := turnA_to ps u ha
      by_cases hv : flipW v = []
      · rw [hv, List.nil_append]; exact ⟨_, [], (List.append_nil _).symm, h7, .nil⟩
      · obtain ⟨x, y, h8, _, h9, h10⟩ := starL_first h6 hv
        rw [h8]
        exact ⟨x, y ++ flipW u, by rw [List.append_assoc], h9, starL_add h10 (starL_one h7)⟩
    · simp only [h0, h1, h2, h3, h4, h5, if_false] at h ⊢
      rcases h with h | h
      · left; rw [h]; rfl
      · right; exact turnA_to ps w h
theorem turnS_to : ∀ (ps : List Tr) (w : List Sy), WordsSeq ps w → WordsSeq (turnL ps).reverse (flipW w)
  | [], w, h => by rw [WordsSeq] at h; subst h; simp [turnL, WordsSeq, flipW]
  | p :: r, w, h => by
    rw [WordsSeq] at h
    obtain ⟨u, v, rfl, h1, h2⟩ := h
    rw [flip_app, turnL, List.reverse_cons]
    exact seq_app (turnS_to r v h2) ((wordsSeq_one _ _).2 (turn_to p u h1))
theorem turnA_to : ∀ (ps : List Tr) (w : List Sy), WordsAlt ps w → WordsAlt (turnL ps) (flipW w)
  | [], w, h => by rw [WordsAlt] at h; exact h.elim
  | p :: r, w, h => by
    rw [WordsAlt] at h
    rw [turnL, WordsAlt]
    rcases h with h | h
    · exact .inl (turn_to p w h)
    · exact .inr (turnA_to r w h)
end
theorem turn_words (t : Tr) (w : List Sy) : Words (turnT t) (flipW w) ↔ Words t w := by
  constructor
  · intro h
    have := turn_to _ _ h
    rwa [turn_turn, flip_flip] at this
  · exact turn_to t w
theorem sizeL_rev : ∀ ps : List Tr, sizeL ps.reverse = sizeL ps
  | [] => rfl
  | p :: r => by
    rw [List.reverse_cons]
    have : ∀ a : List Tr, sizeL (a ++ [p]) = sizeL a + sizeT p := fun a => by
      induction a with
      | nil => simp [sizeL]
      | cons x r ih => rw [List.cons_append, sizeL, sizeL, ih]; omega
    rw [this, sizeL_rev r, sizeL]; omega
theorem depthL_rev : ∀ ps : List Tr, depthL ps.reverse = depthL ps
  | [] => rfl
  | p :: r => by
    rw [List.reverse_cons]
    have : ∀ a : List Tr, depthL (a ++ [p]) = max (depthL a) (depthT p) := fun a => by
      induction a with
      | nil => simp [depthL]
      | cons x r ih => rw [List.cons_append, depthL, depthL, ih]; omega
    rw [this, depthL_rev r, depthL]; omega
theorem formL_rev : ∀ ps : List Tr, formL ps.reverse = formL ps
  | [] => rfl
  | p :: r => by
    rw [List.reverse_cons]
    have : ∀ a : List Tr, formL (a ++ [p]) = (formL a && formB p) := fun a => by
      induction a with
      | nil => simp [formL]
      | cons x r ih => rw [List.cons_append, formL, formL, ih, Bool.and_assoc]
    rw [this, formL_rev r, formL, Bool.and_comm]
theorem turnL_length (ps : List Tr) : (turnL ps).length = ps.length := by rw [turnL_map, List.length_map]
mutual
theorem turn_size : ∀ t : Tr, sizeT (turnT t) = sizeT t
  | .node k n ps => by
    rw [turnT, sizeT, sizeT]
    split
    · rw [sizeL_rev, turnL_size ps]
    · rw [turnL_size ps]
theorem turnL_size : ∀ ps : List Tr, sizeL (turnL ps) = sizeL ps
  | [] => rfl
  | p :: r => by rw [turnL, sizeL, sizeL, turn_size p, turnL_size r]
end
mutual
theorem turn_depth : ∀ t : Tr, depthT (turnT t) = depthT t
  | .node k n ps => by
    rw [turnT, depthT, depthT]
    split
    · rw [depthL_rev, turnL_depth ps]
    · rw [turnL_depth ps]
theorem turnL_depth : ∀ ps : List Tr, depthL (turnL ps) = depthL ps
  | [] => rfl
  | p :: r => by rw [turnL, depthL, depthL, turn_depth p, turnL_depth r]
end
theorem turnL_nil (ps : List Tr) : turnL ps = [] ↔ ps = [] := by
  cases ps <;> simp [turnL]
mutual
theorem turn_form : ∀ t : Tr, formB (turnT t) = formB t
  | .node k n ps => by
    have hL := turnL_form ps
    have hN := turnL_length ps
    have hE := turnL_nil ps
    rw [turnT, formB, formB]
    by_cases h0 : k = 0
    · subst h0; simp [hE]
    by_cases h1 : k = 1
    · subst h1; simp [hE]
    by_cases h2 : k = 2
    · subst h2; simp [hE, formL_rev, hL]
    · simp [h0, h1, h2, hE, hL, hN]
theorem turnL_form : ∀ ps : List Tr, formL (turnL ps) = formL ps
  | [] => rfl
  | p :: r => by rw [turnL, formL, formL, turn_form p, turnL_form r]
end
theorem turn_chk (t : Tr) : chk (turnT t) = chk t := by
  unfold chk
  rw [show (40 : Int) = ((40 : Nat) : Int) from rfl, deep_depth, deep_depth, turn_size, turn_depth, turn_form]
/- does a path take no symbols? -/
mutual
def emptyT : Tr → Bool
  | .node k _ ps => if k = 4 ∨ k = 6 then true else if k = 3 ∨ k = 5 then emptyA ps else if k = 2 then emptyS ps else false
def emptyA : List Tr → Bool
  | [] => false
  | p :: r => emptyT p || emptyA r
def emptyS : List Tr → Bool
  | [] => true
  | p :: r => emptyT p && emptyS r
end
mutual
theorem empty_words : ∀ t : Tr, Form t → (emptyT t = true ↔ Words t [])
  | .node k n ps, hF => by
    rw [Form] at hF
    rw [emptyT]
    rcases hF with ⟨hk, rfl, _⟩ | ⟨hk, hne, hf⟩ | ⟨hk, ⟨p, rfl⟩, hf⟩
    · rcases hk with rfl | rfl <;> simp [Words]
    · rcases hk with rfl | rfl
      · simp [words_seq, emptyS_words ps hf]
      · simp [words_alt, emptyA_words ps hf]
    · have h1 := emptyA_words [p] hf
      rw [wordsAlt_one] at h1
      rcases hk with rfl | rfl | rfl
      · simp [words_star_nil]
      · simp [words_plus_nil, h1]
      · simp [words_opt]
theorem emptyA_words : ∀ ps : List Tr, FormL ps → (emptyA ps = true ↔ WordsAlt ps [])
  | [], _ => by simp [emptyA, WordsAlt]
  | p :: r, hF => by
    rw [FormL] at hF
    rw [emptyA, WordsAlt, Bool.or_eq_true, empty_words p hF.1, emptyA_words r hF.2]
theorem emptyS_words : ∀ ps : List Tr, FormL ps → (emptyS ps = true ↔ WordsSeq ps [])
  | [], _ => by simp [emptyS, WordsSeq]
  | p :: r, hF => by
    rw [FormL] at hF
    rw [emptyS, wordsSeq_cut, Bool.and_eq_true, empty_words p hF.1, emptyS_words r hF.2]
    simp
end
end Go.Proofs.Ytiabmdboacpmcaa
