/- Plain: some of a row's elements kept; how often one stands; projected rows; rows sorted. -/
import Derived.Test.YtniggdaakiofeaaDoorDp
namespace Go.Proofs.YtniggdaakiofeaaDoor
open Go Go.RowKit Go.Sort
/- of this seat alone: 80 -/

def keepG {α : Type} (okf : Nat → Bool) (M : List α) : Nat → List α
  | 0 => []
  | j + 1 => if okf j then keepG okf M j ++ (M[j]?).toList else keepG okf M j
theorem keepG_yes {α : Type} {okf : Nat → Bool} {M : List α} {j : Nat} {x : α} (hx : M[j]? = some x) (h : okf j = true) : keepG okf M (j + 1) = keepG okf M j ++ [x] := by
  rw [keepG, if_pos h, hx]; rfl
theorem keepG_no {α : Type} {okf : Nat → Bool} {M : List α} {j : Nat} (h : okf j = false) : keepG okf M (j + 1) = keepG okf M j := by
  rw [keepG, if_neg (by rw [h]; simp)]
theorem keepG_len {α : Type} (okf : Nat → Bool) (M : List α) : ∀ j, (keepG okf M j).length ≤ j
  | 0 => Nat.le_refl _
  | j + 1 => by
    have := keepG_len okf M j
    rw [keepG]
    split
    · cases M[j]? <;> simp <;> omega
    · omega
theorem keepG_mem {α : Type} {okf : Nat → Bool} {M : List α} {x : α} : ∀ {j : Nat}, x ∈ keepG okf M j → x ∈ M
  | 0, h => by cases h
  | j + 1, h => by
    rw [keepG] at h
    split at h
    · rcases List.mem_append.1 h with h | h
      · exact keepG_mem h
      · cases hj : M[j]? with
        | none => rw [hj] at h; cases h
        | some y => rw [hj] at h; simp at h; rw [h]; exact List.mem_of_getElem? hj
    · exact keepG_mem h
theorem keepN_map {α : Type} {okf okf' : Nat → Bool} {M : List α} (f : α → List Int) (h : ∀ i, i < M.length → okf i = okf' i) : ∀ j, j ≤ M.length → keepN okf (M.map f) j = (keepG okf' M j).map f
  | 0, _ => rfl
  | j + 1, hj => by
    obtain ⟨x, hx⟩ : ∃ x, M[j]? = some x := ⟨_, List.getElem?_eq_getElem (by omega)⟩
    have ih := keepN_map f h j (by omega)
    rw [keepN, keepG, h j (by omega), ih, List.getD_eq_getElem?_getD, List.getElem?_map, hx]
    split
    · simp
    · rfl
/-- how often one stands in a row -/
def cnt (M : List (List VarN)) (x : List VarN) : Nat := M.countP fun y => decide (y = x)
theorem cnt_next {M : List (List VarN)} {i : Nat} {y : List VarN} (h : M[i]? = some y) (x : List VarN) : cnt (M.take (i + 1)) x = cnt (M.take i) x + if y = x then 1 else 0 := by
  unfold cnt
  rw [List.take_add_one, h, Option.toList_some, List.countP_append, List.countP_singleton]
  simp
theorem cnt_mem {M : List (List VarN)} {x : List VarN} : 0 < cnt M x ↔ x ∈ M := by
  unfold cnt
  rw [List.countP_pos_iff]
  exact ⟨fun ⟨y, h1, h2⟩ => of_decide_eq_true h2 ▸ h1, fun h => ⟨x, h, by simp⟩⟩
theorem cnt_erase {G : List (List VarN)} {k : Nat} {r : List VarN} (h : G[k]? = some r) (x : List VarN) : cnt (G.take k ++ G.drop (k + 1)) x = cnt G x - if r = x then 1 else 0 := by
  have hk : k < G.length := (List.getElem?_eq_some_iff.1 h).1
  have e : G = G.take k ++ (r :: G.drop (k + 1)) := by
    have h1 := List.take_append_drop k G
    rw [List.drop_eq_getElem_cons hk, show G[k] = r from (List.getElem?_eq_some_iff.1 h).2] at h1
    exact h1.symm
  have h2 : cnt G x = cnt (G.take k) x + (cnt (G.drop (k + 1)) x + if r = x then 1 else 0) := by
    conv => lhs; rw [e]
    unfold cnt
    rw [List.countP_append, List.countP_cons]
    simp
  have h3 : cnt (G.take k ++ G.drop (k + 1)) x = cnt (G.take k) x + cnt (G.drop (k + 1)) x := by unfold cnt; rw [List.countP_append]
  rw [h3, h2]
  split <;> omega
theorem rowD_inj {U : List ByteArray} {a b : List VarN} (ha : okR U a) (hb : okR U b) (h : rowD U a = rowD U b) : a = b := by
  refine riseR_ext ha.1 hb.1 (fun u => ?_)
  by_cases hu : u ∈ U
  · have : ∀ V : List ByteArray, u ∈ V → V.map (getR a) = V.map (getR b) → getR a u = getR b u := by
      intro V
      induction V with
      | nil => intro h; cases h
      | cons v V ih =>
        intro hv he
        simp only [List.map_cons, List.cons.injEq] at he
        rcases List.mem_cons.1 hv with rfl | hv
        · exact he.1
        · exact ih hv he.2
    exact this U hu h
  · rw [getR_out (fun h => hu (ha.2 u h)), getR_out (fun h => hu (hb.2 u h))]
theorem count_rows {U : List ByteArray} {M : List (List VarN)} {x : List VarN} (hM : ∀ r ∈ M, okR U r) (hx : okR U x) : (rowsD U M).count (rowD U x) = cnt M x := by
  unfold rowsD cnt List.count
  rw [List.countP_map]
  refine List.countP_congr (fun y hy => ?_)
  simp only [Function.comp, beq_iff_eq, decide_eq_true_eq]
  exact ⟨fun h => rowD_inj (hM y hy) hx h, fun h => by rw [h]⟩
def okQ (N M : List (List VarN)) (i : Nat) : Bool := decide (cnt N (M.getD i []) ≤ cnt (M.take i) (M.getD i []))
def minusQ (N M : List (List VarN)) : List (List VarN) := keepG (okQ N M) M M.length
theorem minus_same {U : List ByteArray} {M N : List (List VarN)} (hM : ∀ r ∈ M, okR U r) (hN : ∀ r ∈ N, okR U r) : keepN (okM (rowsD U N) (rowsD U M)) (rowsD U M) (rowsD U M).length = rowsD U (minusQ N M) := by
  rw [rowsD_len]
  refine keepN_map (rowD U) (fun i hi => ?_) _ (Nat.le_refl _)
  obtain ⟨x, hx⟩ : ∃ x, M[i]? = some x := ⟨_, List.getElem?_eq_getElem hi⟩
  have hok := hM x (List.mem_of_getElem? hx)
  have e1 : (rowsD U M).getD i [] = rowD U x := by rw [List.getD_eq_getElem?_getD, rowsD, List.getElem?_map, hx]; rfl
  have e2 : (rowsD U M).take i = rowsD U (M.take i) := by simp [rowsD, List.map_take]
  have e3 : M.getD i [] = x := by rw [List.getD_eq_getElem?_getD, hx]; rfl
  unfold okM okQ
  rw [e1, e2, e3, count_rows hN hok, count_rows (fun r hr => hM r (List.mem_of_mem_take hr)) hok]
theorem minus_none {R : List (List Int)} {U : List ByteArray} {M : List (List VarN)} (hR : R = rowsD U M) : keepN (okM [] R) R R.length = rowsD U (minusQ [] M) := by
  have h1 : ∀ (i : Nat), okM [] R i = true := fun i => by simp [okM]
  have h2 : ∀ (i : Nat), okQ [] M i = true := fun i => by simp [okQ, cnt]
  rw [hR, rowsD_len]
  refine keepN_map (rowD U) (fun i hi => ?_) _ (Nat.le_refl _)
  rw [← hR, h1, h2]
/-- the rows that stand first -/
def okD (M : List (List VarN)) (i : Nat) : Bool := decide (cnt (M.take i) (M.getD i []) = 0)
def distQ (M : List (List VarN)) : List (List VarN) := keepG (okD M) M M.length
theorem dist_in {M : List (List VarN)} {x : List VarN} : ∀ {j : Nat}, x ∈ keepG (okD M) M j ↔ x ∈ M.take j
  | 0 => by simp [keepG]
  | j + 1 => by
    have ih := dist_in (M := M) (x := x) (j := j)
    rw [List.take_add_one, List.mem_append, ← ih, keepG]
    split
    · rw [List.mem_append]
    · rename_i h
      refine ⟨.inl, fun hh => hh.elim id (fun hx => ?_)⟩
      cases hj : M[j]? with
      | none => rw [hj] at hx; cases hx
      | some y =>
        rw [hj] at hx
        simp at hx
        subst hx
        have h0 : ¬ cnt (M.take j) x = 0 := by
          intro e
          refine h ?_
          unfold okD
          rw [List.getD_eq_getElem?_getD, hj]
          simpa using e
        exact ih.2 (cnt_mem.1 (by omega))
theorem okD_yes {M : List (List VarN)} {j : Nat} {x : List VarN} (h : M[j]? = some x) (hn : x ∉ keepG (okD M) M j) : okD M j = true := by
  unfold okD
  rw [List.getD_eq_getElem?_getD, h, Option.getD_some]
  exact decide_eq_true (Classical.byContradiction (fun e => hn (dist_in.2 (cnt_mem.1 (by omega)))))
theorem okD_no {M : List (List VarN)} {j : Nat} {x : List VarN} (h : M[j]? = some x) (hm : x ∈ keepG (okD M) M j) : okD M j = false := by
  unfold okD
  rw [List.getD_eq_getElem?_getD, h, Option.getD_some]
  have := cnt_mem.2 (dist_in.1 hm)
  exact decide_eq_false (by omega)
/-- the vars of a row that are asked for -/
def projQ (W : List ByteArray) (r : List VarN) : List VarN := W.foldl (fun out v => putR out v (getR r v)) []
theorem projQ_spec {r : List VarN} (hr : RiseR r) : ∀ (W : List ByteArray) (out : List VarN), RiseR out → (∀ u, 0 ≤ getR out u → getR out u = getR r u) →
    RiseR (W.foldl (fun out v => putR out v (getR r v)) out) ∧ (∀ u, 0 ≤ getR out u ∨ u ∈ W → getR (W.foldl (fun out v => putR out v (getR r v)) out) u = getR r u) ∧ ∀ u ∈ keysR (W.foldl (fun out v => putR out v (getR r v)) out), u ∈ keysR out ∨ u ∈ W
  | [], out, h, hg => ⟨h, fun u hu => hu.elim (hg u) (fun hu => by cases hu), fun u hu => .inl hu⟩
  | v :: W, out, h, hg => by
    have hp := rise_putR (v := v) (n := getR r v) h
    have hgp : ∀ u, 0 ≤ getR (putR out v (getR r v)) u → getR (putR out v (getR r v)) u = getR r u := fun u hu => by
      rw [getR_putR h] at hu ⊢
      split at hu <;> rename_i hc
      · rw [if_pos hc, ← hc.1]; have := hc.1; omega
      · rw [if_neg hc]; exact hg u hu
    obtain ⟨k1, k2, k3⟩ := projQ_spec hr W (putR out v (getR r v)) hp hgp
    refine ⟨k1, fun u hu => ?_, fun u hu => ?_⟩
    · rw [List.foldl_cons]
      by_cases hm : u ∈ W
      · exact k2 u (.inr hm)
      · by_cases h1 : 0 ≤ getR (putR out v (getR r v)) u
        · exact k2 u (.inl h1)
        · have hlo := getR_lo hr u
          have h2 : ¬ 0 ≤ getR (W.foldl (fun out v => putR out v (getR r v)) (putR out v (getR r v))) u := fun h0 => by
            rcases k3 u ((getR_in k1).1 h0) with h3 | h3
            · exact h1 ((getR_in hp).2 h3)
            · exact hm h3
          have h4 := getR_lo k1 u
          rw [getR_putR h] at h1
          have h5 : getR r u < 0 := by
            split at h1 <;> rename_i hc
            · have := hc.1; subst this; omega
            · rcases hu with h6 | h6
              · exact absurd h6 h1
              · rcases List.mem_cons.1 h6 with e | h6
                · subst e
                  exact absurd ⟨rfl, by omega⟩ hc
                · exact absurd h6 hm
          omega
    · rw [List.foldl_cons] at hu
      rcases k3 u hu with h1 | h1
      · rcases keys_putR h1 with h2 | h2
        · exact .inl h2
        · exact .inr (by rw [h2]; exact List.mem_cons_self ..)
      · exact .inr (List.mem_cons_of_mem _ h1)
theorem proj_ok {W : List ByteArray} {r : List VarN} (hr : RiseR r) : okR W (projQ W r) := by
  obtain ⟨h1, -, h3⟩ := projQ_spec hr W [] riseR_nil (fun u h => by simp [getR] at h)
  exact ⟨h1, fun u hu => (h3 u hu).elim (fun h => by cases h) id⟩
theorem proj_get {W : List ByteArray} {r : List VarN} (hr : RiseR r) {u : ByteArray} (hu : u ∈ W) : getR (projQ W r) u = getR r u := by
  obtain ⟨-, h2, -⟩ := projQ_spec hr W [] riseR_nil (fun u h => by simp [getR] at h)
  exact h2 u (.inr hu)
theorem proj_same {U W : List ByteArray} {M : List (List VarN)} (hM : ∀ r ∈ M, okR U r) : asN W U (rowsD U M) = rowsD W (M.map (projQ W)) := by
  rw [asN_D hM]
  unfold rowsD
  rw [List.map_map]
  refine List.map_congr_left (fun r hr => List.map_congr_left (fun u hu => ?_))
  rw [proj_get (hM r hr).1 hu]
theorem projQ_take {W : List ByteArray} {r : List VarN} {k : Nat} {v : ByteArray} (h : W[k]? = some v) : projQ (W.take (k + 1)) r = putR (projQ (W.take k) r) v (getR r v) := by
  unfold projQ
  rw [List.take_add_one, h, Option.toList_some, List.foldl_append]
  rfl
theorem projQ_len {r : List VarN} : ∀ (W : List ByteArray) (out : List VarN), (W.foldl (fun out v => putR out v (getR r v)) out).length ≤ out.length + W.length
  | [], out => by simp
  | v :: W, out => by
    have h1 := projQ_len (r := r) W (putR out v (getR r v))
    have h2 := putR_length out v (getR r v)
    rw [List.foldl_cons, List.length_cons]
    omega
end Go.Proofs.YtniggdaakiofeaaDoor
