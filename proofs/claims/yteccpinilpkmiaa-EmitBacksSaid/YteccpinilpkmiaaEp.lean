/- The plain law of emit: sorting is one, whichever way; what is left, too. -/
import Derived.Test.YteccpinilpkmiaaEg
namespace Go.Proofs.Yteccpinilpkmiaa
open Go Go.RowKit Go.Sort

def leS (x y : ByteArray) : Prop := toL x ≤ toL y
theorem leS_trans {x y z : ByteArray} (h : leS x y) (k : leS y z) : leS x z := List.le_trans h k
theorem leS_total (x y : ByteArray) : leS x y ∨ leS y x := List.le_total _ _
theorem toL_inj {x y : ByteArray} (h : toL x = toL y) : x = y := by
  have := congrArg ofL h
  simpa [ofL_toL] using this
theorem leS_antisymm {x y : ByteArray} (h : leS x y) (k : leS y x) : x = y := toL_inj (List.le_antisymm h k)
theorem toList_toL (s : ByteArray) : s.toList = toL s := ByteArray.toList_eq s
theorem ltS_iff {x y : ByteArray} : ltS x y = true ↔ ¬ leS y x := by
  unfold ltS leS
  rw [bytesLess_eq, toList_toL, toList_toL, decide_eq_true_eq]
  exact List.not_le.symm
theorem posF_le_at (x : ByteArray) (out : List ByteArray) : ∀ n, 0 < posF x out n → leS (out.getD (posF x out n - 1) ⟨#[]⟩) x
  | 0, h => by simp [posF] at h
  | n + 1, h => by
    unfold posF at h ⊢
    by_cases hl : ltS x (out.getD n ⟨#[]⟩) = true
    · rw [if_pos hl] at h ⊢
      exact posF_le_at x out n h
    · rw [if_neg hl]
      simp only [Nat.add_sub_cancel]
      exact Classical.byContradiction fun hn => hl (ltS_iff.2 hn)
theorem posF_gt (x : ByteArray) (out : List ByteArray) : ∀ n q, posF x out n ≤ q → q < n → leS x (out.getD q ⟨#[]⟩)
  | 0, q, _, h => by omega
  | n + 1, q, h, hq => by
    unfold posF at h
    by_cases hl : ltS x (out.getD n ⟨#[]⟩) = true
    · rw [if_pos hl] at h
      rcases Nat.lt_or_ge q n with h1 | h1
      · exact posF_gt x out n q h h1
      · obtain rfl : q = n := by omega
        exact (leS_total x _).resolve_right (ltS_iff.1 hl)
    · rw [if_neg hl] at h; omega
def SortedS (L : List ByteArray) : Prop := List.Pairwise leS L
theorem getD_eq' {L : List ByteArray} {i : Nat} (h : i < L.length) (d : ByteArray) : L.getD i d = L[i] := by simp [List.getD, h]
theorem insR_sorted {out : List ByteArray} (x : ByteArray) (h : SortedS out) : SortedS (insR out x) := by
  unfold insR SortedS
  have hp := posF_le x out out.length
  have hto : ∀ a ∈ out.take (posF x out out.length), leS a x := fun a ha => by
    obtain ⟨i, hi, rfl⟩ := List.getElem_of_mem ha
    have hi' : i < posF x out out.length := by rw [List.length_take] at hi; omega
    have hl := posF_le_at x out out.length (by omega)
    rw [getD_eq' (by omega)] at hl
    rw [List.getElem_take]
    rcases Nat.lt_or_ge i (posF x out out.length - 1) with h1 | h1
    · exact leS_trans (List.pairwise_iff_getElem.1 h i _ (by omega) (by omega) h1) hl
    · have : i = posF x out out.length - 1 := by omega
      subst this; exact hl
  have hfrom : ∀ b ∈ out.drop (posF x out out.length), leS x b := fun b hb => by
    obtain ⟨i, hi, rfl⟩ := List.getElem_of_mem hb
    rw [List.length_drop] at hi
    have := posF_gt x out out.length (posF x out out.length + i) (by omega) (by omega)
    rw [getD_eq' (by omega)] at this
    rw [List.getElem_drop]
    exact this
  refine List.pairwise_append.2 ⟨List.Pairwise.sublist (List.take_sublist _ _) h, List.pairwise_cons.2 ⟨hfrom, List.Pairwise.sublist (List.drop_sublist _ _) h⟩, fun a ha b hb => ?_⟩
  rcases List.mem_cons.1 hb with rfl | hb
  · exact hto a ha
  · exact leS_trans (hto a ha) (hfrom b hb)
theorem insR_perm (out : List ByteArray) (x : ByteArray) : (insR out x).Perm (x :: out) := by
  unfold insR
  refine List.perm_middle.trans ?_
  rw [List.take_append_drop]
theorem sortR_fold : ∀ (L out : List ByteArray), SortedS out → SortedS (L.foldl insR out) ∧ (L.foldl insR out).Perm (out ++ L)
  | [], out, h => ⟨h, by simp⟩
  | x :: L, out, h => by
    obtain ⟨h1, h2⟩ := sortR_fold L (insR out x) (insR_sorted x h)
    rw [List.foldl_cons]
    exact ⟨h1, h2.trans ((List.Perm.append_right L (insR_perm out x)).trans List.perm_middle.symm)⟩
theorem sortR_sorted (L : List ByteArray) : SortedS (sortR L) := (sortR_fold L [] List.Pairwise.nil).1
theorem sortR_perm (L : List ByteArray) : (sortR L).Perm L := by
  have := (sortR_fold L [] List.Pairwise.nil).2
  rwa [List.nil_append] at this
theorem sorted_uniqueS {A B : List ByteArray} (ha : SortedS A) (hb : SortedS B) (h : A.Perm B) : A = B :=
  List.Perm.eq_of_pairwise (fun _ _ _ _ h1 h2 => leS_antisymm h1 h2) ha hb h
theorem sortS_sorted (L : List ByteArray) : SortedS (sortS L) := by
  unfold SortedS
  have h : List.Pairwise (fun x y : List UInt8 => x ≤ y) ((sortS L).map toL) := by
    rw [sortS_toL]
    have := List.pairwise_mergeSort (le := fun x y : List UInt8 => decide (x ≤ y)) (fun a b c h1 h2 => by simp only [decide_eq_true_eq] at *; exact List.le_trans h1 h2) (fun a b => by simp only [Bool.or_eq_true, decide_eq_true_eq]; exact List.le_total a b) (L.map toL)
    exact this.imp (fun h => by simpa using h)
  exact (List.pairwise_map (f := toL) (R := fun x y : List UInt8 => x ≤ y)).1 h
theorem map_ofL (L : List ByteArray) : (L.map toL).map ofL = L := by
  rw [List.map_map]; exact List.map_id _
theorem sortS_perm (L : List ByteArray) : (sortS L).Perm L := by
  have h := List.mergeSort_perm (L.map toL) (fun x y => decide (x ≤ y))
  have := h.map ofL
  rw [map_ofL] at this
  exact this
theorem sortS_eq (L : List ByteArray) : sortS L = sortR L := sorted_uniqueS (sortS_sorted L) (sortR_sorted L) ((sortS_perm L).trans (sortR_perm L).symm)
theorem sortR_congr {A B : List ByteArray} (h : A.Perm B) : sortR A = sortR B := sorted_uniqueS (sortR_sorted A) (sortR_sorted B) ((sortR_perm A).trans (h.trans (sortR_perm B).symm))

/-- the same, as often: one is the other turned -/
theorem perm_of_cnt {A B : List ByteArray} (h : ∀ s, cnt A s = cnt B s) : A.Perm B := by
  have hc : ∀ (L : List ByteArray) (l : List UInt8), (L.map toL).count l = cnt L (ofL l) := fun L l => by
    unfold cnt List.count
    rw [List.countP_map]
    refine List.countP_congr fun x _ => ?_
    simp only [Function.comp, beq_iff_eq, decide_eq_true_eq]
    constructor
    · intro e; exact toL_inj (by rw [e, toL_ofL])
    · intro e; rw [e, toL_ofL]
  have : (A.map toL).Perm (B.map toL) := List.perm_iff_count.2 fun l => by rw [hc, hc, h]
  have := this.map ofL
  rwa [map_ofL, map_ofL] at this
theorem cnt_perm {A B : List ByteArray} (h : A.Perm B) (s : ByteArray) : cnt A s = cnt B s := h.countP_eq _
theorem cnt_cons (x : ByteArray) (L : List ByteArray) (s : ByteArray) : cnt (x :: L) s = (if x = s then 1 else 0) + cnt L s := by
  unfold cnt
  rw [List.countP_cons]
  simp only [decide_eq_true_eq]
  omega
theorem cnt_append (A B : List ByteArray) (s : ByteArray) : cnt (A ++ B) s = cnt A s + cnt B s := by
  unfold cnt; exact List.countP_append
theorem cnt_rm (L : List ByteArray) (y s : ByteArray) : cnt (rmS L y) s = cnt L s - if y = s then 1 else 0 := by
  induction L with
  | nil => simp [rmS, cnt]
  | cons x L ih =>
    rw [rmS]
    by_cases e : x = y
    · rw [if_pos e, cnt_cons, e]
      split <;> omega
    · rw [if_neg e, cnt_cons, cnt_cons, ih]
      by_cases e2 : y = s
      · have e3 : ¬ x = s := fun h => e (h.trans e2.symm)
        rw [if_pos e2, if_neg e3]; omega
      · rw [if_neg e2]; omega
theorem cnt_rms : ∀ (M L : List ByteArray) (s : ByteArray), cnt (M.foldl rmS L) s = cnt L s - cnt M s
  | [], L, s => by simp [cnt]
  | y :: M, L, s => by
    rw [List.foldl_cons, cnt_rms M, cnt_rm, cnt_cons]
    omega
theorem list_snoc_ind {p : List ByteArray → Prop} (h0 : p []) (h1 : ∀ L x, p L → p (L ++ [x])) : ∀ L, p L := by
  intro L
  suffices h : ∀ n, p (L.take n) by
    have := h L.length
    rwa [List.take_length] at this
  intro n
  induction n with
  | zero => simpa using h0
  | succ n ih =>
    rw [List.take_add_one]
    cases hx : L[n]? with
    | none => simpa using ih
    | some x => exact h1 _ _ ih
theorem cnt_out (M : List ByteArray) (s : ByteArray) : ∀ L, cnt (outE M L) s = cnt L s - cnt M s := by
  refine list_snoc_ind (by simp [outE, cnt]) fun L x ih => ?_
  rw [outE_snoc, cnt_snoc]
  by_cases e : x = s
  · subst e
    rw [if_pos rfl]
    split
    · rw [cnt_snoc, if_pos rfl, ih]; omega
    · rw [ih]; omega
  · rw [if_neg e]
    split
    · rw [cnt_snoc, if_neg e, ih]; omega
    · rw [ih]; omega
theorem out_perm (M L : List ByteArray) : (outE M L).Perm (M.foldl rmS L) := perm_of_cnt fun s => by rw [cnt_out, cnt_rms]
/-- what Less makes is the document's -/
theorem less_eq (L M : List ByteArray) : sortS (outE M L) = lessR L M := by
  rw [sortS_eq]
  exact sortR_congr (out_perm M L)
theorem cnt_lessR (L M : List ByteArray) (s : ByteArray) : cnt (lessR L M) s = cnt L s - cnt M s := by
  unfold lessR; rw [cnt_perm (sortR_perm _), cnt_rms]
theorem cnt_sortR (L : List ByteArray) (s : ByteArray) : cnt (sortR L) s = cnt L s := cnt_perm (sortR_perm L) s
theorem nil_of_cnt {L : List ByteArray} (h : ∀ s, cnt L s = 0) : L = [] := by
  cases L with
  | nil => rfl
  | cons x L => have := h x; rw [cnt_cons, if_pos rfl] at this; omega
theorem len_of_cnt {A B : List ByteArray} (h : ∀ s, cnt A s = cnt B s) : A.length = B.length := (perm_of_cnt h).length_eq
end Go.Proofs.Yteccpinilpkmiaa
