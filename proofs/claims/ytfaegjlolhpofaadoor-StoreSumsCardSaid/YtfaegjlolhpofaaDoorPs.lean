/- The plain law of sums: the keys that fit, by one of their numbers. -/
import Derived.Test.YtfaegjlolhpofaaDoorPm
namespace Go.Proofs.YtfaegjlolhpofaaDoor
open Go.RowKit Go.Sort

def setF (i : Nat) (p : Key) (v : Int) : Key := if i = 0 then ⟨v, p.b, p.c⟩ else if i = 1 then ⟨p.a, v, p.c⟩ else ⟨p.a, p.b, v⟩
theorem key3_set (i : Nat) (hi : i < 3) (p : Key) (v : Int) : (key3 p).setIfInBounds i (.int .i64 v) = key3 (setF i p v) := by
  obtain rfl | rfl | rfl : i = 0 ∨ i = 1 ∨ i = 2 := by omega
  all_goals rfl
theorem key3_at (i : Nat) (hi : i < 3) (p : Key) : (key3 p)[i]? = some (.int .i64 (p.f i)) := by
  obtain rfl | rfl | rfl : i = 0 ∨ i = 1 ∨ i = 2 := by omega
  all_goals rfl
theorem setF_set (i : Nat) (p : Key) (u v : Int) : setF i (setF i p u) v = setF i p v := by
  unfold setF
  by_cases h0 : i = 0
  · simp [h0]
  · by_cases h1 : i = 1
    · simp [h1]
    · simp [h0, h1]
theorem fits_setF (i : Nat) (hi : i < 3) (p k : Key) (v : Int) (hv : 0 ≤ v) : fitsB (setF i p v) k = (fitsB (setF i p (-1)) k && decide (v = k.f i)) := by
  rw [Bool.eq_iff_iff, Bool.and_eq_true, fitsB_iff, fitsB_iff, decide_eq_true_eq]
  unfold FitP setF
  obtain rfl | rfl | rfl : i = 0 ∨ i = 1 ∨ i = 2 := by omega
  all_goals (simp [Key.f]; omega)
theorem filter_split (f : Key → Bool) (g : Key → Int) (v : Int) (vs : List Int) (hv : v ∉ vs) : ∀ (L : List Key), (L.filter (fun k => f k && decide (g k ∈ vs ++ [v]))).length = (L.filter (fun k => f k && decide (g k ∈ vs))).length + (L.filter (fun k => f k && decide (v = g k))).length
  | [] => rfl
  | k :: L => by
    have ih := filter_split f g v vs hv L
    simp only [List.filter_cons]
    by_cases hf : f k = true
    · by_cases h1 : g k ∈ vs
      · have h2 : v ≠ g k := fun e => hv (e ▸ h1)
        simp [hf, h1, h2]
        simp at ih
        omega
      · by_cases h2 : v = g k
        · simp [hf, ← h2]
          simp at ih
          simp [hv]
          omega
        · have h3 : g k ≠ v := fun e => h2 e.symm
          simp [hf, h1, h2, h3]
          simp at ih
          omega
    · have hf' : f k = false := by simpa using hf
      simp [hf']
      simp at ih
      omega
/-- as many as are told, together -/
def sumS (i : Nat) (p : Key) (L : List Key) (vs : List Int) : Nat := (L.filter (fun k => fitsB (setF i p (-1)) k && decide (k.f i ∈ vs))).length
theorem sumS_nil (i : Nat) (p : Key) (L : List Key) : sumS i p L [] = 0 := by
  unfold sumS
  simp
theorem sumS_snoc (i : Nat) (hi : i < 3) (p : Key) (L : List Key) (hd : L.Nodup) (vs : List Int) (v : Int) (hv : 0 ≤ v) (hn : v ∉ vs) : sumS i p L (vs ++ [v]) = sumS i p L vs + (scanL (setF i p v) L).length := by
  unfold sumS
  rw [filter_split (fitsB (setF i p (-1))) (fun k => k.f i) v vs hn L, (scanL_perm _ L hd).length_eq]
  congr 2
  refine List.filter_congr fun k _ => ?_
  rw [fits_setF i hi p k v hv]
theorem sumS_all (i : Nat) (p : Key) (L : List Key) (hd : L.Nodup) (vs : List Int) (h : ∀ k ∈ L, k.f i ∈ vs) : sumS i p L vs = (scanL (setF i p (-1)) L).length := by
  unfold sumS
  rw [(scanL_perm _ L hd).length_eq]
  congr 1
  refine List.filter_congr fun k hk => ?_
  simp [h k hk]
/-- what has been seen -/
def addSeen (vs : List Int) (v : Int) : List Int := if v ∈ vs then vs else vs ++ [v]
def seenOf (i : Nat) (L : List Key) : List Int := L.foldl (fun vs k => addSeen vs (k.f i)) []
theorem seen_mem (i : Nat) : ∀ (L : List Key) (vs : List Int) (v : Int), v ∈ L.foldl (fun vs k => addSeen vs (k.f i)) vs ↔ v ∈ vs ∨ ∃ k ∈ L, k.f i = v
  | [], vs, v => by simp
  | k :: L, vs, v => by
    rw [List.foldl_cons, seen_mem i L]
    unfold addSeen
    constructor
    · rintro (h | ⟨k', h1, h2⟩)
      · split at h
        · exact .inl h
        · rcases List.mem_append.1 h with h | h
          · exact .inl h
          · exact .inr ⟨k, List.mem_cons_self .., (List.mem_singleton.1 h).symm⟩
      · exact .inr ⟨k', List.mem_cons_of_mem _ h1, h2⟩
    · rintro (h | ⟨k', h1, h2⟩)
      · left; split
        · exact h
        · exact List.mem_append_left _ h
      · rcases List.mem_cons.1 h1 with rfl | h1
        · left
          split
          · rw [← h2]; assumption
          · rw [← h2]; simp
        · exact .inr ⟨k', h1, h2⟩
theorem seen_len (i : Nat) : ∀ (L : List Key) (vs : List Int), (L.foldl (fun vs k => addSeen vs (k.f i)) vs).length ≤ vs.length + L.length
  | [], vs => by simp
  | k :: L, vs => by
    have := seen_len i L (addSeen vs (k.f i))
    have h2 : (addSeen vs (k.f i)).length ≤ vs.length + 1 := by unfold addSeen; split <;> simp
    simp only [List.foldl_cons, List.length_cons]
    omega
theorem seen_take (i : Nat) {L : List Key} {j : Nat} (h : j < L.length) : seenOf i (L.take (j + 1)) = addSeen (seenOf i (L.take j)) ((kat L j).f i) := by
  have : L.take (j + 1) = L.take j ++ [kat L j] := by
    unfold kat
    rw [List.take_add_one, List.getD_eq_getElem?_getD, List.getElem?_eq_getElem h]; simp
  unfold seenOf
  rw [this, List.foldl_append]
  rfl
end Go.Proofs.YtfaegjlolhpofaaDoor
