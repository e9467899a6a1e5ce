/- Plain: sums of rows; the rows that Build makes. -/
import Derived.Test.YtniggdaakiofeaaDoorSp
namespace Go.Proofs.YtniggdaakiofeaaDoor
open Go

def sumR (r : List VarN) : Int := (r.map (·.2)).sum
def sumV (V : List ByteArray) (g : ByteArray → Int) : Int := (V.map fun v => max (g v) 0).sum
theorem sumV_out : ∀ {V : List ByteArray} {f g : ByteArray → Int} {u : ByteArray}, u ∉ V → (∀ v, v ≠ u → f v = g v) → sumV V f = sumV V g
  | [], _, _, _, _, _ => rfl
  | v :: V, f, g, u, hu, h => by
    have := sumV_out (V := V) (fun hh => hu (List.mem_cons_of_mem _ hh)) h
    simp only [sumV, List.map_cons, List.sum_cons] at this ⊢
    rw [h v (fun e => hu (List.mem_cons.2 (.inl e.symm))), this]
theorem sumV_in : ∀ {V : List ByteArray} {f g : ByteArray → Int} {u : ByteArray}, V.Nodup → u ∈ V → (∀ v, v ≠ u → f v = g v) → sumV V f = sumV V g + (max (f u) 0 - max (g u) 0)
  | v :: V, f, g, u, hn, hu, h => by
    obtain ⟨n1, n2⟩ := List.nodup_cons.1 hn
    by_cases e : v = u
    · subst e
      have := sumV_out (f := f) (g := g) n1 h
      simp only [sumV, List.map_cons, List.sum_cons] at this ⊢
      omega
    · have := sumV_in n2 ((List.mem_cons.1 hu).resolve_left (fun e' => e e'.symm)) h
      simp only [sumV, List.map_cons, List.sum_cons] at this ⊢
      rw [h v e]
      omega
theorem sum_same {V : List ByteArray} (hV : V.Nodup) : ∀ {r : List VarN}, okR V r → sumV V (getR r) = sumR r
  | [], _ => by
    have : ∀ W : List ByteArray, sumV W (getR []) = 0 := fun W => by
      induction W with
      | nil => rfl
      | cons v W ih => simp only [sumV, List.map_cons, List.sum_cons, getR] at ih ⊢; omega
    exact this V
  | p :: r, h => by
    have h' : okR V r := ⟨riseR_tail h.1, fun u hu => h.2 u (List.mem_cons_of_mem _ hu)⟩
    have hp := h.1.2 p (List.mem_cons_self ..)
    have ho : getR r p.1 = -1 := getR_out (fun hk => ltS_irrefl p.1 (riseR_head h.1 p.1 hk))
    rw [sumV_in (g := getR r) (u := p.1) hV (h.2 p.1 (List.mem_cons_self ..)) (fun v hv => by rw [getR, if_neg (fun e => hv e.symm)]), sum_same hV h', ho, getR, if_pos rfl]
    simp only [sumR, List.map_cons, List.sum_cons]
    omega

/-- the row that Build makes, up to a place -/
def buildR (names : List ByteArray) (real : List Int) : Nat → List VarN
  | 0 => []
  | k + 1 => if idxS names (names.getD k ⟨#[]⟩) = k ∧ k < names.length then putR (buildR names real k) (names.getD k ⟨#[]⟩) (real.getD k (-1)) else buildR names real k
theorem build_ok (names : List ByteArray) (real : List Int) : ∀ k, okR (setS names) (buildR names real k)
  | 0 => ⟨riseR_nil, fun u hu => by cases hu⟩
  | k + 1 => by
    have h := build_ok names real k
    rw [buildR]
    split
    · rename_i hh
      refine ⟨rise_putR h.1, fun u hu => ?_⟩
      rcases keys_putR hu with h1 | h1
      · exact h.2 u h1
      · rw [h1, mem_setS]
        have e : names.getD k ⟨#[]⟩ = names[k] := by simp [List.getD, hh.2]
        rw [e]
        exact List.getElem_mem _
    · exact h
theorem build_get (names : List ByteArray) (real : List Int) : ∀ (k : Nat) (v : ByteArray), getR (buildR names real k) v = if idxS names v < k ∧ idxS names v < names.length then max (real.getD (idxS names v) (-1)) (-1) else -1
  | 0, v => by rw [if_neg (by omega)]; rfl
  | k + 1, v => by
    have ih := build_get names real k
    have ok := build_ok names real k
    rw [buildR]
    by_cases hh : idxS names (names.getD k ⟨#[]⟩) = k ∧ k < names.length
    · rw [if_pos hh, getR_putR ok.1]
      by_cases e : names.getD k ⟨#[]⟩ = v
      · subst e
        rw [if_pos ⟨rfl, by rw [ih, if_neg (by omega)]; decide⟩, if_pos (by omega), hh.1]
      · rw [if_neg (fun hk => e hk.1), ih]
        by_cases h1 : idxS names v = k
        · exfalso
          have hm : v ∈ names := idxS_lt.1 (by omega)
          have h2 := idxS_get hm
          rw [h1] at h2
          exact e (by rw [List.getD_eq_getElem?_getD, h2]; rfl)
        · by_cases h2 : idxS names v < k ∧ idxS names v < names.length
          · rw [if_pos h2, if_pos (by omega)]
          · rw [if_neg h2, if_neg (by omega)]
    · rw [if_neg hh, ih]
      by_cases h1 : idxS names v = k
      · by_cases h3 : k < names.length
        · exfalso
          have hm : v ∈ names := idxS_lt.1 (by omega)
          have h2 := idxS_get hm
          rw [h1] at h2
          have e : names.getD k ⟨#[]⟩ = v := by rw [List.getD_eq_getElem?_getD, h2]; rfl
          exact hh ⟨by rw [e]; exact h1, h3⟩
        · rw [if_neg (by omega), if_neg (by omega)]
      · by_cases h2 : idxS names v < k ∧ idxS names v < names.length
        · rw [if_pos h2, if_pos (by omega)]
        · rw [if_neg h2, if_neg (by omega)]
theorem build_same (names : List ByteArray) (real : List Int) : ofRow names real = rowD (setS names) (buildR names real real.length) := by
  unfold ofRow
  refine rowD_of (build_ok names real real.length).1 (fun v hv => ?_)
  rw [build_get]
  have hv' := idxS_lt.2 (mem_setS.1 hv)
  by_cases h : idxS names v < real.length
  · rw [if_pos h, if_pos ⟨h, hv'⟩]
  · rw [if_neg h, if_neg (fun hh => h hh.1)]; rfl
/-- tables that are the same -/
def rowsD (V : List ByteArray) (R : List (List VarN)) : List (List Int) := R.map (rowD V)
theorem good_rows {V : List ByteArray} {R : List (List VarN)} (hV : RiseS V) (hR : ∀ r ∈ R, okR V r) : goodB V (rowsD V R) = true := by
  have h1 : riseB V = true := by
    unfold riseB
    rw [List.all_eq_true]
    intro i hi
    have hi' := List.mem_range.1 hi
    rcases Nat.eq_zero_or_pos i with h0 | h0
    · simp [h0]
    · have := List.pairwise_iff_getElem.1 hV (i - 1) i (by omega) hi' (by omega)
      have e1 : V.getD (i - 1) ⟨#[]⟩ = V[i - 1] := by simp [List.getD, show i - 1 < V.length by omega]
      have e2 : V.getD i ⟨#[]⟩ = V[i] := by simp [List.getD, hi']
      rw [e1, e2, this]; simp
  have h2 : (rowsD V R).any (badRow V.length) = false := by
    rw [List.any_eq_false]
    intro x hx
    obtain ⟨r, hr, rfl⟩ := List.mem_map.1 hx
    unfold badRow
    have : (rowD V r).any ltN = false := by
      rw [List.any_eq_false]
      intro n hn
      obtain ⟨v, _, rfl⟩ := List.mem_map.1 hn
      have := getR_lo (hR r hr).1 v
      simp [ltN]; omega
    rw [this]
    simp [rowD]
  rw [goodB, h1, h2]; rfl
theorem joinN_rows {U V : List ByteArray} {R S : List (List VarN)} (hR : ∀ r ∈ R, okR U r) (hS : ∀ r ∈ S, okR V r) : joinN U V (rowsD U R) (rowsD V S) = rowsD (setS (U ++ V)) (R.flatMap fun r => (S.filter (compD r)).map (joinD r)) := by
  unfold joinN rowsD
  rw [List.flatMap_map, List.map_flatMap]
  rw [List.flatMap_def, List.flatMap_def]
  congr 1
  refine List.map_congr_left (fun r hr => ?_)
  rw [List.filter_map, List.map_map, List.map_map]
  have e : S.filter (compB U V (rowD U r) ∘ rowD V) = S.filter (compD r) := List.filter_congr (fun s hs => comp_same (hR r hr) (hS s hs))
  rw [e]
  refine List.map_congr_left (fun s hs => ?_)
  obtain ⟨h1, h2⟩ := List.mem_filter.1 hs
  exact join_same (hR r hr) (hS s h1) h2
end Go.Proofs.YtniggdaakiofeaaDoor
