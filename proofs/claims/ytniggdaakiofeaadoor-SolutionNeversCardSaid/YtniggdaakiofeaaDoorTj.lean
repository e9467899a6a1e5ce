/- Rows of small numbers; what few says. -/
import Derived.Test.YtniggdaakiofeaaDoorSo
namespace Go.Proofs.YtniggdaakiofeaaDoor
open Go Go.RowKit Go.Sort

def smallP (r : List VarN) : Prop := ∀ p ∈ r, 0 ≤ p.2 ∧ p.2 ≤ 1000
theorem small_put {r : List VarN} {v : ByteArray} {n : Int} (h : smallP r) (hn : n ≤ 1000) : smallP (putR r v n) := by
  unfold putR
  split
  · exact h
  · rename_i hh
    intro p hp
    rcases mem_putI.1 hp with h1 | h1
    · exact h p h1
    · rw [h1]; exact ⟨by simp only; omega, hn⟩
theorem real_small (r : List Nat) (k : Nat) : (realOf r).getD k (-1) ≤ 1000 := by
  rw [List.getD_eq_getElem?_getD, realOf, List.getElem?_map]
  cases r[k]? with
  | none => simp
  | some n => simp; omega
theorem small_build (L : List ByteArray) (r : List Nat) : ∀ k, smallP (buildR L (realOf r) k)
  | 0 => fun p hp => by cases hp
  | k + 1 => by
    rw [buildR]
    split
    · exact small_put (small_build L r k) (real_small r k)
    · exact small_build L r k
theorem small_join : ∀ (b a : List VarN), smallP a → smallP b → smallP (joinD a b)
  | [], a, ha, _ => ha
  | p :: b, a, ha, hb => small_join b (putR a p.1 p.2) (small_put ha (hb p (List.mem_cons_self ..)).2) (fun q hq => hb q (List.mem_cons_of_mem _ hq))
theorem get_small {r : List VarN} (h : smallP r) (v : ByteArray) : getR r v ≤ 1000 := by
  induction r with
  | nil => simp [getR]
  | cons p r ih =>
    rw [getR]
    split
    · exact (h p (List.mem_cons_self ..)).2
    · exact ih (fun q hq => h q (List.mem_cons_of_mem _ hq))
theorem doc_len (L : List ByteArray) (r : List Nat) : (docRow L r).length ≤ r.length := build_len _ _ _
theorem doc_ok (L : List ByteArray) (r : List Nat) : okR (setS L) (docRow L r) := build_ok _ _ _
theorem doc_small (L : List ByteArray) (r : List Nat) : smallP (docRow L r) := small_build _ _ _
/-- the document's table that Build makes -/
def docT (xs : List Nat) (rs : List (List Nat)) : List (List VarN) := (rs.take 8).map (docRow (namesOf xs))
theorem docT_len (xs : List Nat) (rs : List (List Nat)) : (docT xs rs).length ≤ 8 := by simp [docT]; omega
theorem docT_mem {xs : List Nat} {rs : List (List Nat)} (h : ∀ r ∈ rs, r.length ≤ 20) {r : List VarN} (hr : r ∈ docT xs rs) : okR (setS (namesOf xs)) r ∧ smallP r ∧ r.length ≤ 20 := by
  obtain ⟨x, hx, rfl⟩ := List.mem_map.1 hr
  exact ⟨doc_ok _ _, doc_small _ _, Nat.le_trans (doc_len _ _) (h x (List.mem_of_mem_take hx))⟩
theorem names_len (xs : List Nat) : (namesOf xs).length ≤ 5 := by simp [namesOf]; omega
theorem vars_len (xs : List Nat) : (setS (namesOf xs)).length ≤ 5 := Nat.le_trans (setS_length _) (names_len xs)
theorem few_bounds {xs : List Nat} {rs : List (List Nat)} (h : fewB xs rs = true) : xs.length ≤ 100 ∧ rs.length ≤ 100 ∧ ∀ r ∈ rs, r.length ≤ 20 := by
  unfold fewB at h
  simp only [Bool.and_eq_true, decide_eq_true_eq, List.all_eq_true] at h
  exact ⟨h.2.2, h.2.1, h.1⟩
theorem rowsD_mem {V : List ByteArray} {M : List (List VarN)} : ∀ x ∈ rowsD V M, x.length = V.length := fun x hx => by
  obtain ⟨r, _, rfl⟩ := List.mem_map.1 hx
  simp [rowD]
theorem rowsD_len (V : List ByteArray) (M : List (List VarN)) : (rowsD V M).length = M.length := by simp [rowsD]
theorem build_law (v : Value) (xs : List Nat) (rs : List (List Nat)) (w : World) (h : RawV w v xs rs) (hf : fewB xs rs = true) :
    Calls Tryd.prog 11 #[v] w fun e w' => ∃ vv rv dv, e = .returned (.tuple #[.agg #[vv, rv], dv]) ∧ Own w.heap.size w' vv rv (setS (namesOf xs)) (rowsD (setS (namesOf xs)) (docT xs rs)) ∧ TD w' dv (setS (namesOf xs)) (docT xs rs) ∧ Ext w w' := by
  obtain ⟨h1, h2, h3⟩ := few_bounds hf
  exact build_any v xs rs w h h1 h2 h3
end Go.Proofs.YtniggdaakiofeaaDoor
