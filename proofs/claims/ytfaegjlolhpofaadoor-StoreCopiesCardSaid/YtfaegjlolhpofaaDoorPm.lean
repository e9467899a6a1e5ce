/- The plain law of a scan: those that fit, in the pattern's order; the document's list by insertion is the same. -/
import Derived.Test.YtfaegjlolhpofaaDoorRi
import Derived.Test.YtfaegjlolhpofaaDoorPl
import Derived.Test.YtfaegjlolhpofaaDoorSd
namespace Go.Proofs.YtfaegjlolhpofaaDoor
open Go.RowKit Go.Sort

def Nonneg (k : Key) : Prop := 0 ≤ k.a ∧ 0 ≤ k.b ∧ 0 ≤ k.c
def FitP (p k : Key) : Prop := (p.a < 0 ∨ p.a = k.a) ∧ (p.b < 0 ∨ p.b = k.b) ∧ (p.c < 0 ∨ p.c = k.c)
theorem fit1_iff {p k : Int} : fit1 p k = true ↔ p < 0 ∨ p = k := by
  unfold fit1; simp
theorem fitsB_iff {p k : Key} : fitsB p k = true ↔ FitP p k := by
  unfold fitsB FitP
  simp only [Bool.and_eq_true, fit1_iff, and_assoc]
theorem fit_notlt {p k : Key} (hn : Nonneg k) (h : FitP p k) (o : Int) : ¬ ltO o k (posKey p) := by
  obtain ⟨n1, n2, n3⟩ := hn
  obtain ⟨h1, h2, h3⟩ := h
  rw [ltO_iff]
  unfold ltK Key.turn posKey
  split
  · simp only [Key.f]; omega
  · split
    · simp only [Key.f]; omega
    · simp only [Key.f]; omega
theorem fit_down {p x y : Key} (hx : Nonneg x) (hy : FitP p y) (h1 : ¬ ltO (ordP p) x (posKey p)) (h2 : ltO (ordP p) x y) : FitP p x := by
  obtain ⟨n1, n2, n3⟩ := hx
  obtain ⟨y1, y2, y3⟩ := hy
  rw [ltO_iff] at h1 h2
  unfold ltK Key.turn at h1 h2
  unfold posKey at h1
  unfold FitP
  unfold ordP at h1 h2
  by_cases c1 : p.a < 0 ∧ 0 ≤ p.b
  · simp only [c1, and_self, if_true, Key.f] at h1 h2
    omega
  · by_cases c2 : p.b < 0 ∧ 0 ≤ p.c
    · simp only [c1, c2, and_self, if_true, if_false, Key.f] at h1 h2
      have e : ¬ (2 : Int) = 1 := by decide
      simp only [e, if_false] at h1 h2
      omega
    · simp only [c1, c2, if_false] at h1 h2
      have e : ¬ (0 : Int) = 1 := by decide
      have e2 : ¬ (0 : Int) = 2 := by decide
      simp only [e, e2, if_false, Key.f] at h1 h2
      omega

theorem takeWhile_eq_filter {α : Type} (f : α → Bool) (R : α → α → Prop) : ∀ (l : List α), List.Pairwise R l → (∀ x ∈ l, ∀ y ∈ l, R x y → f y = true → f x = true) → l.takeWhile f = l.filter f
  | [], _, _ => rfl
  | x :: l, h, hd => by
    have h1 := List.pairwise_cons.1 h
    by_cases hx : f x = true
    · rw [List.takeWhile_cons, List.filter_cons, if_pos hx, if_pos hx, takeWhile_eq_filter f R l h1.2 (fun a ha b hb => hd a (List.mem_cons_of_mem _ ha) b (List.mem_cons_of_mem _ hb))]
    · rw [List.takeWhile_cons, List.filter_cons, if_neg hx, if_neg hx]
      exact (List.filter_eq_nil_iff.2 fun y hy hfy => hx (hd x (List.mem_cons_self ..) y (List.mem_cons_of_mem _ hy) (h1.1 y hy) hfy)).symm

theorem scanned_eq (p : Key) (ks : List Key) (h : Sorted (ordP p) ks) (hn : ∀ k ∈ ks, Nonneg k) : scanned (ordP p) p ks = ks.filter (fitsB p) := by
  obtain ⟨h1, h2⟩ := split_at_lb (ordP p) (posKey p) ks h
  have hd : ∀ k ∈ ks.drop (lb (ordP p) ks (posKey p)), k ∈ ks ∧ ¬ ltO (ordP p) k (posKey p) := fun k hk => by
    rw [h2] at hk
    have := List.mem_filter.1 hk
    exact ⟨this.1, by simpa using this.2⟩
  unfold scanned
  rw [takeWhile_eq_filter (fitsB p) (ltO (ordP p)) _ (List.Pairwise.sublist (List.drop_sublist _ _) h) (fun x hx y hy hxy hfy => fitsB_iff.2 (fit_down (hn x (hd x hx).1) (fitsB_iff.1 hfy) (hd x hx).2 hxy))]
  conv => rhs; rw [← List.take_append_drop (lb (ordP p) ks (posKey p)) ks, List.filter_append]
  have hnil : (ks.take (lb (ordP p) ks (posKey p))).filter (fitsB p) = [] := List.filter_eq_nil_iff.2 fun k hk hfk => by
    rw [h1] at hk
    have := List.mem_filter.1 hk
    exact fit_notlt (hn k this.1) (fitsB_iff.1 hfk) (ordP p) (by simpa using this.2)
  rw [hnil, List.nil_append]

theorem scan_sorted (o : Int) (p : Key) : ∀ (L out : List Key), Sorted o out → (out ++ L).Nodup → Sorted o (L.foldl (scanF o p) out) ∧ (L.foldl (scanF o p) out).Perm (out ++ L.filter (fitsB p))
  | [], out, h, _ => ⟨h, by simp⟩
  | k :: L, out, h, hd => by
    have hk : k ∉ out := fun hm => by
      have := (List.nodup_append.1 hd).2.2 k hm k (List.mem_cons_self ..)
      exact this rfl
    rw [List.foldl_cons]
    by_cases hf : fitsB p k = true
    · have e : scanF o p out k = insAt out (lb o out k) k := by unfold scanF; rw [if_pos hf]
      have hp := ins_perm out (lb o out k) k
      have hd2 : (insAt out (lb o out k) k ++ L).Nodup := by
        refine (List.Perm.nodup_iff ?_).1 hd
        exact (List.perm_middle).trans ((List.Perm.append_right L hp).symm)
      obtain ⟨h1, h2⟩ := scan_sorted o p L _ (ins_sorted h hk) hd2
      rw [e]
      refine ⟨h1, h2.trans ?_⟩
      rw [List.filter_cons, if_pos hf]
      exact (List.Perm.append_right _ hp).trans List.perm_middle.symm
    · have e : scanF o p out k = out := by unfold scanF; rw [if_neg hf]
      have hd2 : (out ++ L).Nodup := List.Nodup.sublist (List.Sublist.append_left (List.sublist_cons_self _ _) _) hd
      obtain ⟨h1, h2⟩ := scan_sorted o p L out h hd2
      rw [e, List.filter_cons, if_neg hf]
      exact ⟨h1, h2⟩

theorem sorted_unique {o : Int} {xs ys : List Key} (hx : Sorted o xs) (hy : Sorted o ys) (h : xs.Perm ys) : xs = ys :=
  List.Perm.eq_of_pairwise (fun _ _ _ _ h1 h2 => absurd h2 (ltO_asymm h1)) hx hy h

/-- what a scan tells is the document's -/
theorem scanned_scanL (p : Key) (ks L : List Key) (h : Sorted (ordP p) ks) (hn : ∀ k ∈ L, Nonneg k) (hp : ks.Perm L) : scanned (ordP p) p ks = scanL p L := by
  have hd : L.Nodup := (List.Perm.nodup_iff hp).1 (sorted_nodup h)
  obtain ⟨h1, h2⟩ := scan_sorted (ordP p) p L [] (List.Pairwise.nil) (by simpa using hd)
  refine sorted_unique ?_ h1 ?_
  · rw [scanned_eq p ks h (fun k hk => hn k (hp.mem_iff.1 hk))]
    exact List.Pairwise.sublist List.filter_sublist h
  · rw [scanned_eq p ks h (fun k hk => hn k (hp.mem_iff.1 hk))]
    refine (List.Perm.filter _ hp).trans ?_
    have := h2.symm
    rw [List.nil_append] at this
    exact this
theorem scanL_perm (p : Key) (L : List Key) (hd : L.Nodup) : (scanL p L).Perm (L.filter (fitsB p)) := by
  obtain ⟨_, h2⟩ := scan_sorted (ordP p) p L [] (List.Pairwise.nil) (by simpa using hd)
  rw [List.nil_append] at h2
  exact h2

/-- what Add answers, and leaves -/
def addC (room : Int) (L : List Key) (k : Key) : Int := if k.a < 0 ∨ k.b < 0 ∨ k.c < 0 then 2 else if k ∈ L then 5 else if room ≤ L.length then 6 else 0
def addL (room : Int) (L : List Key) (k : Key) : List Key := if addC room L k = 0 then L ++ [k] else L
def remC (L : List Key) (k : Key) : Int := if k ∈ L then 0 else 4
def remL (L : List Key) (k : Key) : List Key := L.erase k
theorem idxL_neg : ∀ (L : List Key) (k : Key) (n : Int), 0 ≤ n → k ∉ L → idxL L k n = -1
  | [], _, _, _, _ => rfl
  | x :: l, k, n, hn, h => by
    have hx : ¬ x = k := fun e => h (by rw [e]; exact List.mem_cons_self ..)
    rw [idxL, if_neg hx, idxL_neg l k (n + 1) (by omega) (fun hm => h (List.mem_cons_of_mem _ hm))]
theorem idxL_pos : ∀ (L : List Key) (k : Key) (n : Int), k ∈ L → ∃ i : Nat, i < L.length ∧ idxL L k n = n + i ∧ L.take i ++ L.drop (i + 1) = L.erase k
  | [], _, _, h => by cases h
  | x :: l, k, n, h => by
    by_cases e : x = k
    · subst e
      exact ⟨0, by simp, by rw [idxL, if_pos rfl]; simp, by simp⟩
    · have hm : k ∈ l := by
        rcases List.mem_cons.1 h with h | h
        · exact absurd h.symm e
        · exact h
      obtain ⟨i, h1, h2, h3⟩ := idxL_pos l k (n + 1) hm
      refine ⟨i + 1, by simpa using h1, by rw [idxL, if_neg e, h2]; omega, ?_⟩
      rw [List.take_succ_cons, List.drop_succ_cons, List.cons_append, h3, List.erase_cons, if_neg (by simpa using e)]
end Go.Proofs.YtfaegjlolhpofaaDoor
