/- Plain: what Content adds up. -/
import Derived.Test.YtojgbphmkloicaaBa
namespace Go.Proofs.Ytojgbphmkloicaa
open Go

def optN (n : Nat) : Option Int := if n = 0 then none else some (n : Int)
theorem optN_getD (n : Nat) : (optN n).getD 0 = (n : Int) := by
  unfold optN
  split
  · rename_i h; rw [h]; rfl
  · rfl
theorem optN_some {n : Nat} : (optN n).isSome = true ↔ n ≠ 0 := by
  unfold optN
  split <;> simp_all
theorem cntF_optN (ks : List Key) (k : Key) : cntF ks k = optN (ks.count k) := rfl
def accW (W : List Bk) (j : Nat) (k : Key) : Nat := ((W.take j).map fun p => p.2.count k).sum
theorem accW_zero (W : List Bk) (k : Key) : accW W 0 k = 0 := rfl
theorem accW_succ {W : List Bk} {j : Nat} {b : Bk} (h : W[j]? = some b) (k : Key) : accW W (j + 1) k = accW W j k + b.2.count k := by
  unfold accW
  rw [List.take_add_one, h, Option.toList_some, List.map_append, List.sum_append]
  simp
theorem accW_le (W : List Bk) (j : Nat) (k : Key) : accW W j k ≤ accW W W.length k := by
  unfold accW
  rw [List.take_length]
  conv => rhs; rw [← List.take_append_drop j W]
  rw [List.map_append, List.sum_append]
  omega
theorem accW_cnt {bs : List Bk} (hr : RiseB bs) (o c : Int) (k : Key) : accW (whileB bs o c) (whileB bs o c).length k = cnt (flatB bs) o c k := by
  unfold accW
  rw [List.take_length, cnt_while hr]
theorem cnt_le_len (E : List Ev) (o c : Int) (k : Key) : cnt E o c k ≤ E.length := List.countP_le_length
def inG (W : List Bk) (j : Nat) (done ks : List Key) (k : Key) : Nat := accW W j k + if k ∈ done then ks.count k else 0
theorem inG_start (W : List Bk) (j : Nat) (ks : List Key) (k : Key) : inG W j [] ks k = accW W j k := by simp [inG]
theorem inG_end {W : List Bk} {j : Nat} {t : Int} {ks done : List Key} (h : W[j]? = some (t, ks)) (hall : ∀ x, (cntF ks x).isSome = true → x ∈ done) (k : Key) : inG W j done ks k = accW W (j + 1) k := by
  rw [accW_succ h]
  unfold inG
  split
  · rfl
  · rename_i hk
    have : ks.count k = 0 := by
      refine Classical.byContradiction fun h0 => hk (hall k ?_)
      rw [cntF_optN, optN_some]
      exact h0
    show accW W j k + 0 = accW W j k + ks.count k
    omega
theorem inG_le {W : List Bk} {j : Nat} {t : Int} {ks : List Key} (h : W[j]? = some (t, ks)) (done : List Key) (k : Key) : inG W j done ks k ≤ accW W (j + 1) k := by
  rw [accW_succ h]
  unfold inG
  split <;> simp
theorem inG_step {W : List Bk} {j : Nat} {ks done : List Key} {x : Key} (hx : x ∉ done) (y : Key) : inG W j (done ++ [x]) ks y = if y = x then inG W j done ks x + ks.count x else inG W j done ks y := by
  unfold inG
  by_cases e : y = x
  · subst e
    rw [if_pos rfl, if_pos (by simp), if_neg hx]
    omega
  · rw [if_neg e]
    have : (y ∈ done ++ [x]) ↔ y ∈ done := by simp [e]
    by_cases hy : y ∈ done
    · rw [if_pos hy, if_pos (this.2 hy)]
    · rw [if_neg hy, if_neg (fun h => hy (this.1 h))]
theorem inG_own {W : List Bk} {j : Nat} {ks done : List Key} {x : Key} (hx : x ∉ done) : inG W j done ks x = accW W j x := by
  unfold inG
  rw [if_neg hx]
  rfl
theorem cont_of {E : List Ev} {o c : Int} {xs : List Key} (hs : xs.Pairwise ltK) (hm : ∀ x, x ∈ xs ↔ cnt E o c x ≠ 0) : Cont E o c (xs.map fun k => (k, cnt E o c k)) := by
  refine ⟨List.pairwise_map.2 hs, fun k n => ?_⟩
  rw [List.mem_map]
  constructor
  · rintro ⟨x, hx, e⟩
    cases e
    exact ⟨rfl, Nat.pos_of_ne_zero ((hm _).1 hx)⟩
  · rintro ⟨h1, h2⟩
    exact ⟨k, (hm k).2 (by omega), by rw [h1]⟩
theorem accW_mem {W : List Bk} {j : Nat} {k : Key} (h : accW W j k ≠ 0) : ∃ b ∈ W, k ∈ b.2 := by
  refine Classical.byContradiction fun hn => h ?_
  unfold accW
  refine List.sum_eq_zero_iff_forall_eq_nat.2 (fun n hn' => ?_)
  obtain ⟨b, hb, rfl⟩ := List.mem_map.1 hn'
  exact List.count_eq_zero.2 (fun hk => hn ⟨b, List.mem_of_mem_take hb, hk⟩)
theorem while_mem {bs : List Bk} {o c : Int} {b : Bk} (h : b ∈ whileB bs o c) : b ∈ bs := List.mem_of_mem_take (List.mem_of_mem_drop h)
theorem key_flat {bs : List Bk} {b : Bk} (hb : b ∈ bs) {k : Key} (hk : k ∈ b.2) : k ∈ (flatB bs).map (·.2) := List.mem_map.2 ⟨(b.1, k), mem_flatB.2 ⟨b.2, hb, hk⟩, rfl⟩
/-- a map whose keys are among those -/
theorem map_near {m N : Nat} {f : Key → Option Int} {M : List Key} {w : World} (h : MapC m N f w) (hf : ∀ y, (f y).isSome = true → y ∈ M) : N ≤ M.length := by
  obtain ⟨L, h1, h2, h3⟩ := mapG_keys h
  rw [← h3]
  exact nodup_sub_len h1 (fun x hx => hf x ((h2 x).1 hx))
end Go.Proofs.Ytojgbphmkloicaa
