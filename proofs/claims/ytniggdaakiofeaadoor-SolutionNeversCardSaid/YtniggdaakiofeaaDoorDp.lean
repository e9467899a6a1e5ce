/- Plain: rows of very small numbers; unions; three tables joined. -/
import Derived.Test.YtniggdaakiofeaaDoorDu
import Derived.Test.YtniggdaakiofeaaDoorTy
namespace Go.Proofs.YtniggdaakiofeaaDoor
open Go Go.RowKit Go.Sort
/- of this seat alone: 80 -/

def tinyP (r : List VarN) : Prop := ∀ p ∈ r, 0 ≤ p.2 ∧ p.2 ≤ 2
theorem tiny_put {r : List VarN} {v : ByteArray} {n : Int} (h : tinyP r) (hn : n ≤ 2) : tinyP (putR r v n) := by
  unfold putR
  split
  · exact h
  · rename_i hh
    intro p hp
    rcases mem_putI.1 hp with h1 | h1
    · exact h p h1
    · rw [h1]; exact ⟨by simp only; omega, hn⟩
theorem real_tiny (r : List Nat) (k : Nat) : (realOf r).getD k (-1) ≤ 2 := by
  rw [List.getD_eq_getElem?_getD, realOf, List.getElem?_map]
  cases r[k]? with
  | none => simp
  | some n => simp; omega
theorem tiny_build (L : List ByteArray) (r : List Nat) : ∀ k, tinyP (buildR L (realOf r) k)
  | 0 => fun p hp => by cases hp
  | k + 1 => by
    rw [buildR]
    split
    · exact tiny_put (tiny_build L r k) (real_tiny r k)
    · exact tiny_build L r k
theorem tiny_join : ∀ (b a : List VarN), tinyP a → tinyP b → tinyP (joinD a b)
  | [], a, ha, _ => ha
  | p :: b, a, ha, hb => tiny_join b (putR a p.1 p.2) (tiny_put ha (hb p (List.mem_cons_self ..)).2) (fun q hq => hb q (List.mem_cons_of_mem _ hq))
theorem get_tiny {r : List VarN} (h : tinyP r) (v : ByteArray) : getR r v ≤ 2 := by
  induction r with
  | nil => simp [getR]
  | cons p r ih =>
    rw [getR]
    split
    · exact (h p (List.mem_cons_self ..)).2
    · exact ih (fun q hq => h q (List.mem_cons_of_mem _ hq))
theorem tiny_doc {xs : List Nat} {rs : List (List Nat)} : ∀ r ∈ docT xs rs, tinyP r := fun r hr => by
  obtain ⟨x, _, rfl⟩ := List.mem_map.1 hr
  exact tiny_build _ _ _
/-- what is known of a table whose numbers are very small -/
structure IsQ (U : List ByteArray) (M : List (List VarN)) : Prop where
  rise : RiseS U
  ok : ∀ r ∈ M, okR U r
  tiny : ∀ r ∈ M, tinyP r
theorem isQ_tiny {U : List ByteArray} {M : List (List VarN)} (h : IsQ U M) : ∀ y ∈ rowsD U M, TinyR y := fun y hy n hn => by
  obtain ⟨r, hr, rfl⟩ := List.mem_map.1 hy
  obtain ⟨u, _, rfl⟩ := List.mem_map.1 hn
  exact ⟨getR_lo (h.ok r hr).1 u, get_tiny (h.tiny r hr) u⟩
theorem isQ_of {xs : List Nat} {rs : List (List Nat)} {U : List ByteArray} {M : List (List VarN)} (h : IsT U M) (hM : M = docT xs rs) : IsQ U M := ⟨h.rise, h.ok, by rw [hM]; exact tiny_doc⟩
theorem joinQ_mem {M N : List (List VarN)} {r : List VarN} (h : r ∈ joinQ M N) : ∃ x ∈ M, ∃ y ∈ N, compD x y = true ∧ r = joinD x y := by
  obtain ⟨x, hx, hr⟩ := List.mem_flatMap.1 h
  obtain ⟨y, hy, rfl⟩ := List.mem_map.1 hr
  obtain ⟨hy1, hy2⟩ := List.mem_filter.1 hy
  exact ⟨x, hx, y, hy1, hy2, rfl⟩
theorem isQ_join {U V : List ByteArray} {M N : List (List VarN)} (hM : IsQ U M) (hN : IsQ V N) : IsQ (setS (U ++ V)) (joinQ M N) :=
  ⟨rise_setS _, fun r hr => by obtain ⟨x, hx, y, hy, _, rfl⟩ := joinQ_mem hr; exact okR_join (hM.ok x hx) (hN.ok y hy), fun r hr => by obtain ⟨x, hx, y, hy, _, rfl⟩ := joinQ_mem hr; exact tiny_join y x (hM.tiny x hx) (hN.tiny y hy)⟩
theorem okR_sub {U W : List ByteArray} {r : List VarN} (h : okR U r) (hs : ∀ u ∈ U, u ∈ W) : okR W r := ⟨h.1, fun u hu => hs u (h.2 u hu)⟩
theorem isQ_both {U V : List ByteArray} {M N : List (List VarN)} (hM : IsQ U M) (hN : IsQ V N) : IsQ (setS (U ++ V)) (M ++ N) :=
  ⟨rise_setS _, fun r hr => by
    rcases List.mem_append.1 hr with h | h
    · exact okR_sub (hM.ok r h) (fun u hu => mem_setS.2 (List.mem_append.2 (.inl hu)))
    · exact okR_sub (hN.ok r h) (fun u hu => mem_setS.2 (List.mem_append.2 (.inr hu))), fun r hr => (List.mem_append.1 hr).elim (hM.tiny r) (hN.tiny r)⟩
theorem flatMap_congrM {α β : Type} {f g : α → List β} : ∀ {L : List α}, (∀ x ∈ L, f x = g x) → L.flatMap f = L.flatMap g
  | [], _ => rfl
  | x :: L, h => by rw [List.flatMap_cons, List.flatMap_cons, h x (List.mem_cons_self ..), flatMap_congrM (fun y hy => h y (List.mem_cons_of_mem _ hy))]
theorem joinN_D {U V : List ByteArray} {M N : List (List VarN)} (hM : ∀ r ∈ M, okR U r) (hN : ∀ r ∈ N, okR V r) : joinN U V (rowsD U M) (rowsD V N) = rowsD (setS (U ++ V)) (joinQ M N) := by
  unfold joinN joinQ rowsD
  rw [List.flatMap_map, List.map_flatMap]
  refine flatMap_congrM (fun x hx => ?_)
  rw [List.filter_map, List.map_map, List.map_map]
  have e : List.filter ((compB U V (rowD U x)) ∘ rowD V) N = N.filter (compD x) := List.filter_congr (fun y hy => by simp only [Function.comp]; exact comp_same (hM x hx) (hN y hy))
  rw [e]
  refine List.map_congr_left (fun y hy => ?_)
  obtain ⟨h1, h2⟩ := List.mem_filter.1 hy
  simp only [Function.comp]
  exact join_same (hM x hx) (hN y h1) h2
/-- the rows of a table, in another one's vars -/
def asN (W U : List ByteArray) (R : List (List Int)) : List (List Int) := R.map fun x => rowOf W (valN U x)
theorem asN_take {W U : List ByteArray} {R : List (List Int)} {j : Nat} {x : List Int} (h : R[j]? = some x) : asN W U (R.take (j + 1)) = asN W U (R.take j) ++ [rowOf W (valN U x)] := by
  unfold asN
  rw [List.take_add_one, h, Option.toList_some, List.map_append]
  rfl
theorem asN_len (W U : List ByteArray) (R : List (List Int)) : (asN W U R).length = R.length := by simp [asN]
theorem asN_D {W U : List ByteArray} {M : List (List VarN)} (hM : ∀ r ∈ M, okR U r) : asN W U (rowsD U M) = rowsD W M := by
  unfold asN rowsD
  rw [List.map_map]
  refine List.map_congr_left (fun r hr => ?_)
  simp only [Function.comp]
  refine rowD_of (hM r hr).1 (fun v _ => ?_)
  rw [valN_rowD (hM r hr)]
  have := getR_lo (hM r hr).1 v
  omega
def unionN (U V : List ByteArray) (R S : List (List Int)) : List (List Int) := asN (setS (U ++ V)) U R ++ asN (setS (U ++ V)) V S
theorem unionN_D {U V : List ByteArray} {M N : List (List VarN)} (hM : ∀ r ∈ M, okR U r) (hN : ∀ r ∈ N, okR V r) : unionN U V (rowsD U M) (rowsD V N) = rowsD (setS (U ++ V)) (M ++ N) := by
  unfold unionN
  rw [asN_D hM, asN_D hN]
  simp [rowsD]
/-- rows that tell the same are the same -/
theorem riseR_form : ∀ {r : List VarN}, RiseR r → r = (keysR r).map fun u => (u, getR r u) := fun {r} h => by
  have : (keysR r).map (fun u => (u, getR r u)) = r.map fun p => p := by
    unfold keysR
    rw [List.map_map]
    refine List.map_congr_left (fun p hp => ?_)
    simp only [Function.comp]
    rw [getR_mem h hp]
  rw [this, List.map_id']
theorem riseR_ext {a b : List VarN} (ha : RiseR a) (hb : RiseR b) (h : ∀ u, getR a u = getR b u) : a = b := by
  have hk : keysR a = keysR b := rise_unique ha.1 hb.1 (fun u => by rw [← getR_in ha, ← getR_in hb, h u])
  rw [riseR_form ha, riseR_form hb, hk]
  exact List.map_congr_left (fun u _ => by rw [h u])
theorem joinD_assoc {x y z : List VarN} (hx : RiseR x) (hy : RiseR y) (hz : RiseR z) : joinD (joinD x y) z = joinD x (joinD y z) := by
  obtain ⟨a1, a2, -⟩ := joinD_spec y hx hy
  obtain ⟨b1, b2, -⟩ := joinD_spec z hy hz
  obtain ⟨c1, c2, -⟩ := joinD_spec z a1 hz
  obtain ⟨d1, d2, -⟩ := joinD_spec (joinD y z) hx b1
  refine riseR_ext c1 d1 (fun u => ?_)
  rw [c2, d2, a2, b2]
  by_cases h : 0 ≤ getR x u
  · rw [if_pos h, if_pos h, if_pos h]
  · rw [if_neg h, if_neg h]
theorem joinD_comm {x y : List VarN} (hx : RiseR x) (hy : RiseR y) (h : compD x y = true) : joinD x y = joinD y x := by
  obtain ⟨a1, a2, -⟩ := joinD_spec y hx hy
  obtain ⟨b1, b2, -⟩ := joinD_spec x hy hx
  rw [compD_iff hx] at h
  refine riseR_ext a1 b1 (fun u => ?_)
  rw [a2, b2]
  have := h u
  have h1 := getR_lo hx u
  have h2 := getR_lo hy u
  split <;> split <;> omega
theorem compD_comm {x y : List VarN} (hx : RiseR x) (hy : RiseR y) : compD x y = compD y x := by
  rw [Bool.eq_iff_iff, compD_iff hx, compD_iff hy]
  exact ⟨fun h u h1 h2 => (h u h2 h1).symm, fun h u h1 h2 => (h u h2 h1).symm⟩
theorem compD_three {x y z : List VarN} (hx : RiseR x) (hy : RiseR y) (hz : RiseR z) : (compD x y && compD (joinD x y) z) = (compD y z && compD x (joinD y z)) := by
  obtain ⟨a1, a2, -⟩ := joinD_spec y hx hy
  obtain ⟨b1, b2, -⟩ := joinD_spec z hy hz
  rw [Bool.eq_iff_iff, Bool.and_eq_true, Bool.and_eq_true, compD_iff hx, compD_iff hy, compD_iff hx, compD_iff a1]
  constructor
  · rintro ⟨h1, h2⟩
    refine ⟨fun u hu hv => ?_, fun u hu hv => ?_⟩
    · have := h1 u; have := h2 u
      rw [a2] at this
      split at this <;> omega
    · have := h1 u; have := h2 u
      rw [a2] at this
      rw [b2] at hv ⊢
      split at hv <;> rename_i h5
      · rw [if_pos h5]; omega
      · rw [if_neg h5]
        rw [if_pos hu] at this
        omega
  · rintro ⟨h1, h2⟩
    refine ⟨fun u hu hv => ?_, fun u hu hv => ?_⟩
    · have := h2 u hu
      rw [b2, if_pos hv] at this
      omega
    · have k1 := h1 u; have k2 := h2 u
      rw [b2] at k2
      rw [a2] at hu ⊢
      split at hu <;> rename_i h5
      · rw [if_pos h5]
        split at k2 <;> omega
      · rw [if_neg h5]; omega
theorem flat_if {α β : Type} (p : α → Bool) (f : α → List β) : ∀ L : List α, (L.filter p).flatMap f = L.flatMap fun x => if p x then f x else []
  | [] => rfl
  | x :: L => by
    rw [List.filter_cons, List.flatMap_cons, ← flat_if p f L]
    by_cases h : p x = true
    · rw [if_pos h, if_pos h, List.flatMap_cons]
    · rw [if_neg h, if_neg h]; rfl
theorem joinQ_if (M N : List (List VarN)) : joinQ M N = M.flatMap fun x => N.flatMap fun y => if compD x y then [joinD x y] else [] := by
  unfold joinQ
  refine flatMap_congrM (fun x _ => ?_)
  rw [← flat_if (compD x) (fun y => [joinD x y]), ← List.map_eq_flatMap]
theorem joinQ_assoc {U V Z : List ByteArray} {M N O : List (List VarN)} (hM : IsQ U M) (hN : IsQ V N) (hO : IsQ Z O) : joinQ (joinQ M N) O = joinQ M (joinQ N O) := by
  have e1 : joinQ (joinQ M N) O = M.flatMap fun x => N.flatMap fun y => O.flatMap fun z => if compD x y && compD (joinD x y) z then [joinD (joinD x y) z] else [] := by
    rw [joinQ_if (joinQ M N), joinQ_if M N, List.flatMap_assoc]
    refine flatMap_congrM (fun x _ => ?_)
    rw [List.flatMap_assoc]
    refine flatMap_congrM (fun y _ => ?_)
    cases compD x y
    · simp
    · simp
  have e2 : joinQ M (joinQ N O) = M.flatMap fun x => N.flatMap fun y => O.flatMap fun z => if compD y z && compD x (joinD y z) then [joinD x (joinD y z)] else [] := by
    rw [joinQ_if M]
    refine flatMap_congrM (fun x _ => ?_)
    rw [joinQ_if N O, List.flatMap_assoc]
    refine flatMap_congrM (fun y _ => ?_)
    rw [List.flatMap_assoc]
    refine flatMap_congrM (fun z _ => ?_)
    cases compD y z
    · simp
    · simp
  rw [e1, e2]
  refine flatMap_congrM (fun x hx => flatMap_congrM (fun y hy => flatMap_congrM (fun z hz => ?_)))
  rw [compD_three (hM.ok x hx).1 (hN.ok y hy).1 (hO.ok z hz).1, joinD_assoc (hM.ok x hx).1 (hN.ok y hy).1 (hO.ok z hz).1]
theorem flat_two {α β : Type} (f g : α → List β) : ∀ L : List α, (L.flatMap fun x => f x ++ g x).Perm (L.flatMap f ++ L.flatMap g)
  | [] => .nil
  | x :: L => by
    simp only [List.flatMap_cons]
    have ih := flat_two f g L
    refine List.Perm.trans (List.Perm.append_left _ ih) ?_
    rw [List.append_assoc, List.append_assoc]
    refine List.Perm.append_left _ ?_
    rw [← List.append_assoc, ← List.append_assoc]
    exact List.Perm.append_right _ List.perm_append_comm
theorem joinQ_union (M N O : List (List VarN)) : (joinQ M (N ++ O)).Perm (joinQ M N ++ joinQ M O) := by
  unfold joinQ
  have := flat_two (fun r => (N.filter (compD r)).map (joinD r)) (fun r => (O.filter (compD r)).map (joinD r)) M
  refine List.Perm.trans ?_ this
  rw [show (fun r => ((N ++ O).filter (compD r)).map (joinD r)) = (fun x => (N.filter (compD x)).map (joinD x) ++ (O.filter (compD x)).map (joinD x)) from funext fun r => by rw [List.filter_append, List.map_append]]
theorem flat_none {α β : Type} : ∀ L : List α, (L.flatMap fun _ => ([] : List β)) = []
  | [] => rfl
  | x :: L => by rw [List.flatMap_cons, flat_none L]; rfl
theorem swap_flat {α β γ : Type} (f : α → β → List γ) : ∀ (M : List α) (N : List β), (M.flatMap fun x => N.flatMap fun y => f x y).Perm (N.flatMap fun y => M.flatMap fun x => f x y)
  | [], N => by
    simp only [List.flatMap_nil]
    rw [flat_none]
  | x :: M, N => by
    simp only [List.flatMap_cons]
    exact (List.Perm.append_left _ (swap_flat f M N)).trans (flat_two (fun y => f x y) (fun y => M.flatMap fun x => f x y) N).symm
theorem perm_rows {W : List ByteArray} {M N : List (List VarN)} (h : M.Perm N) : (rowsD W M).Perm (rowsD W N) := h.map _
theorem joinQ_comm {U V : List ByteArray} {M N : List (List VarN)} (hM : ∀ r ∈ M, okR U r) (hN : ∀ r ∈ N, okR V r) : (joinQ M N).Perm (joinQ N M) := by
  rw [joinQ_if, joinQ_if]
  have e : (M.flatMap fun x => N.flatMap fun y => if compD x y then [joinD x y] else []) = M.flatMap fun x => N.flatMap fun y => if compD y x then [joinD y x] else [] :=
    flatMap_congrM (fun x hx => flatMap_congrM (fun y hy => by
      have h1 := (hM x hx).1
      have h2 := (hN y hy).1
      rw [← compD_comm h1 h2]
      by_cases h : compD x y = true
      · rw [if_pos h, if_pos h, joinD_comm h1 h2 h]
      · rw [if_neg h, if_neg h]))
  rw [e]
  exact swap_flat _ M N
/-- names of three -/
theorem set_assoc (U V Z : List ByteArray) : setS (setS (U ++ V) ++ Z) = setS (U ++ setS (V ++ Z)) := rise_unique (rise_setS _) (rise_setS _) (fun x => by simp [mem_setS, or_assoc])
theorem set_union (U V Z : List ByteArray) : setS (U ++ setS (V ++ Z)) = setS (setS (U ++ V) ++ setS (U ++ Z)) := rise_unique (rise_setS _) (rise_setS _) (fun x => by
  simp only [mem_setS, List.mem_append]
  constructor
  · rintro (h | h | h)
    · exact .inl (.inl h)
    · exact .inl (.inr h)
    · exact .inr (.inr h)
  · rintro ((h | h) | h | h)
    · exact .inl h
    · exact .inr (.inl h)
    · exact .inl h
    · exact .inr (.inr h))
theorem set_comm (U V : List ByteArray) : setS (U ++ V) = setS (V ++ U) := rise_unique (rise_setS _) (rise_setS _) (fun x => by simp [mem_setS, or_comm])
theorem threes_same {U V Z : List ByteArray} {M N O : List (List VarN)} (hM : IsQ U M) (hN : IsQ V N) (hO : IsQ Z O) :
    sameB (setS (setS (U ++ V) ++ Z)) (setS (U ++ setS (V ++ Z))) (rowsD (setS (setS (U ++ V) ++ Z)) (joinQ (joinQ M N) O)) (rowsD (setS (U ++ setS (V ++ Z))) (joinQ M (joinQ N O))) = true :=
  same_iff.2 ⟨set_assoc U V Z, by rw [set_assoc, joinQ_assoc hM hN hO]⟩
theorem threes_union (U V Z : List ByteArray) (M N O : List (List VarN)) :
    sameB (setS (U ++ setS (V ++ Z))) (setS (setS (U ++ V) ++ setS (U ++ Z))) (rowsD (setS (U ++ setS (V ++ Z))) (joinQ M (N ++ O))) (rowsD (setS (setS (U ++ V) ++ setS (U ++ Z))) (joinQ M N ++ joinQ M O)) = true :=
  same_iff.2 ⟨set_union U V Z, by rw [set_union]; exact perm_rows (joinQ_union M N O)⟩
end Go.Proofs.YtniggdaakiofeaaDoor
