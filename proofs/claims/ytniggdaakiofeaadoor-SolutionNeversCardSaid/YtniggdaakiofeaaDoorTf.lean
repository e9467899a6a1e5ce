/- LeftJoin. -/
import Derived.Test.YtniggdaakiofeaaDoorSl
import Derived.Test.YtniggdaakiofeaaDoorGu
namespace Go.Proofs.YtniggdaakiofeaaDoor
open Go Go.RowKit Go.Sort
set_option maxHeartbeats 4000000

/-- what a condition answers of a table's rows -/
def CbOk (g : Nat) (lb : Array Value) (V : List ByteArray) (ok : List Int → Bool) (Pr : List Int → Prop) (w : World) : Prop :=
  ∀ (T : List (List Int)) (x : List Int) (tv xv : Value) (w1 : World), Ext w w1 → x ∈ T → x.length = V.length → Pr x → T.length ≤ 1000000 → TabV w1 tv V T → RdI w1 xv x → Calls Tryd.prog g (#[tv, xv] ++ lb) w1 fun e w2 => e = .returned (.bool (ok x)) ∧ Ext w1 w2
def leftJ (ok : List Int → Bool) (U V : List ByteArray) (S : List (List Int)) (x : List Int) : List (List Int) := ((S.filter (compB U V x)).map (joinR U V x)).filter ok
def leftG (ok : List Int → Bool) (U V : List ByteArray) (S : List (List Int)) (x : List Int) : List (List Int) := if (leftJ ok U V S x).length = 0 then [rowOf (setS (U ++ V)) (valN U x)] else leftJ ok U V S x
def leftN (ok : List Int → Bool) (U V : List ByteArray) (R S : List (List Int)) : List (List Int) := R.flatMap (leftG ok U V S)
theorem leftN_take {ok : List Int → Bool} {U V : List ByteArray} {R S : List (List Int)} {j : Nat} {x : List Int} (hx : R[j]? = some x) : leftN ok U V (R.take (j + 1)) S = leftN ok U V (R.take j) S ++ leftG ok U V S x := by
  unfold leftN
  rw [List.take_add_one, hx, Option.toList_some, List.flatMap_append]
  simp
theorem leftJ_no {ok : List Int → Bool} {U V : List ByteArray} {S : List (List Int)} {k : Nat} {x y : List Int} (hy : S[k]? = some y) (h : compB U V x y = false) : leftJ ok U V (S.take (k + 1)) x = leftJ ok U V (S.take k) x := by
  unfold leftJ
  rw [List.take_add_one, hy, Option.toList_some, List.filter_append]
  simp [h]
theorem leftJ_yes {ok : List Int → Bool} {U V : List ByteArray} {S : List (List Int)} {k : Nat} {x y : List Int} (hy : S[k]? = some y) (h : compB U V x y = true) : leftJ ok U V (S.take (k + 1)) x = leftJ ok U V (S.take k) x ++ (if ok (joinR U V x y) then [joinR U V x y] else []) := by
  unfold leftJ
  rw [List.take_add_one, hy, Option.toList_some, List.filter_append]
  simp only [List.filter_cons, h, if_true, List.filter_nil, List.map_append, List.map_cons, List.map_nil, List.filter_append]
theorem leftJ_len (ok : List Int → Bool) (U V : List ByteArray) (S : List (List Int)) (x : List Int) : (leftJ ok U V S x).length ≤ S.length := by
  unfold leftJ
  refine Nat.le_trans (List.length_filter_le ..) ?_
  rw [List.length_map]
  exact List.length_filter_le ..
theorem leftG_len (ok : List Int → Bool) (U V : List ByteArray) (S : List (List Int)) (x : List Int) : (leftG ok U V S x).length ≤ S.length + 1 := by
  have := leftJ_len ok U V S x
  unfold leftG
  split
  · simp
  · omega
theorem leftN_len (ok : List Int → Bool) (U V : List ByteArray) (R S : List (List Int)) : (leftN ok U V R S).length ≤ R.length * (S.length + 1) := by
  induction R with
  | nil => simp [leftN]
  | cons x R ih =>
    unfold leftN at ih ⊢
    rw [List.flatMap_cons, List.length_append, List.length_cons, Nat.add_mul, Nat.one_mul]
    have := leftG_len ok U V S x
    omega
theorem leftN_mid (ok : List Int → Bool) (U V : List ByteArray) (R S : List (List Int)) (x : List Int) {j k : Nat} (hj : j < R.length) (hk : k ≤ S.length) : (leftN ok U V (R.take j) S ++ leftJ ok U V (S.take k) x).length < R.length * (S.length + 1) := by
  have h1 := leftN_len ok U V (R.take j) S
  have h2 := leftJ_len ok U V (S.take k) x
  rw [List.length_take, Nat.min_eq_left (by omega)] at h1 h2
  rw [List.length_append]
  have h3 : (j + 1) * (S.length + 1) ≤ R.length * (S.length + 1) := Nat.mul_le_mul_right _ hj
  rw [Nat.add_mul, Nat.one_mul] at h3
  omega
theorem joinR_len (U V : List ByteArray) (x y : List Int) : (joinR U V x y).length = (setS (U ++ V)).length := rowOf_length _ _

theorem eg58 (args : Array Value) (w : World) : (callFunc 58 args).run Tryd.prog w = .ok (.enter 58 args) w := enter_fn Tryd.func58 (by kernel_rfl) rfl args w
theorem ljF_any (ba bx : Nat) (avv arv xv : Value) (U : List ByteArray) (R : List (List Int)) (x : List Int) (v : ByteArray) (w : World) (h1 : w.heap[ba]? = some (.cells #[avv, arv] 31 (0, 0))) (h2 : w.heap[bx]? = some (.cells #[xv] 41 (0, 0)))
    (ha : TabV w (.agg #[avv, arv]) U R) (hx : RdI w xv x) (hU : RiseS U) (hu : U.length ≤ 1000000) (hlx : x.length = U.length) :
    Calls Tryd.prog 58 #[.string v, .pointer (some ⟨ba, 0, none⟩), .pointer (some ⟨bx, 0, none⟩)] w fun e w' => e = .returned (.int .i64 (valN U x v)) ∧ Ext w w' := by
  have C1 := Lib.hid (value_any (.agg #[avv, arv]) xv U R x v w ha hx hU hu hlx)
  obtain ⟨a1, a2⟩ := tabV_parts ha
  obtain ⟨A1, c1, rfl⟩ := rdS_form a1
  obtain ⟨A2, c2, rfl⟩ := rdW_form a2
  obtain ⟨A5, c5, rfl⟩ := rdI_form hx
  have q0 : w.cell? ⟨ba, 0, none⟩ = some (.slice A1 U.length c1) := block_cell h1 0
  have q1 : w.cell? ⟨ba, 1, none⟩ = some (.slice A2 R.length c2) := block_cell h1 1
  have q2 : w.cell? ⟨bx, 0, none⟩ = some (.slice A5 x.length c5) := block_cell h2 0
  have l0 := block_lt h1
  have l1 := block_lt h2
  clear h1 h2 ha hx hU hlx a1 a2
  go_enter Tryd.func58, Tryd.ntmps58
  go_wp2_with (go_at_call 47; refine C1.out.mono ?_; rintro e w1 ⟨rfl, hE1⟩; have HE1 := Lib.hid hE1; clear hE1)
  refine bodyPost_ret (results_tmp rfl _ _ _) rfl ?_
  exact ⟨rfl, HE1.out⟩
theorem rowE_init {w : World} {A : Option Addr} {n c : Nat} {sl : List Sl} {s : Sl} (h : rowE elW w (.slice A n c) (sl ++ [s])) : rowE elW w (.slice A sl.length c) sl := by
  rcases rowE_cases h with ⟨_, h2⟩ | ⟨g, cap, cur, h1, hg, h3, h4, h5, h6⟩
  · simp at h2
  · simp only [Value.slice.injEq] at h1
    obtain ⟨rfl, rfl, rfl⟩ := h1
    have h3' : sl.length + 1 ≤ c := by simpa using h3
    refine ⟨by rw [flatE_length], .inr ⟨g, c, cur, rfl, Nat.zero_le _, hg, by omega, h4, h5, ?_⟩⟩
    have h7 := congrArg (List.take (sl.length * elW.size)) h6
    rw [List.take_take, flatE_append, Nat.min_eq_left (Nat.mul_le_mul_right _ (by simp))] at h7
    rw [h7]
    have hfl : (flatE elW sl).length = sl.length * elW.size := flatE_length ..
    rw [← hfl, List.take_left]
/-- the last row goes again -/
theorem tabK_pop {ok : Nat → Prop} {H : Nat} {w : World} {p : Nat} {V : List ByteArray} {T : List (List Int)} {x : List Int} {vv : Value} {A : Option Addr} {n c : Nat} (hb : w.heap[p]? = some (.cells #[vv, .slice A n c] 31 (0, 0))) (how : OwnK ok H w vv (.slice A n c) V (T ++ [x])) :
    n = T.length + 1 ∧ TabK ok H (w.setCell ⟨p, 1, none⟩ (.slice A T.length c)) p V T ∧ Upd (fun b => b = p) w (w.setCell ⟨p, 1, none⟩ (.slice A T.length c)) := by
  obtain ⟨h1, sl, h2, h3, h4⟩ := how
  have hl : sl.length = T.length + 1 := by simpa using h3
  have hn : n = sl.length := (rowE_cap h2.1).1
  obtain ⟨sl', s, rfl⟩ : ∃ sl' s, sl = sl' ++ [s] := by
    have hne : sl ≠ [] := fun e => by rw [e] at hl; simp at hl
    exact ⟨sl.dropLast, sl.getLast hne, (List.dropLast_concat_getLast hne).symm⟩
  have hl' : sl'.length = T.length := by simpa using hl
  have hU : Upd (fun b => b = p) w (w.setCell ⟨p, 1, none⟩ (.slice A T.length c)) := upd_setCell (a := ⟨p, 1, none⟩) _
  have hoff : ∀ {α : Type} {E : El α} {L : List α} {u : Value}, E.ty ≠ 31 → rowE E w u L → rowE E (w.setCell ⟨p, 1, none⟩ (.slice A T.length c)) u L := fun {α E L u} ht h => rowE_upd h hU (fun b hb' (e : b = p) => rowE_off h hb (fun e' => ht e'.symm) (hb'.trans (by rw [e])))
  refine ⟨by omega, ⟨vv, .slice A T.length c, heap_setCell_at hb, ⟨hoff (by decide) h1.1, h1.2⟩, sl', ⟨hoff (by decide) (by rw [← hl']; exact rowE_init h2.1), fun g hg => h2.2 g (by obtain ⟨g', rfl, _⟩ := rowE_some h2.1 (by simp); rw [← hg]; rfl)⟩, hl', fun i s' x' hs hx => ?_⟩, hU⟩
  have hi : i < sl'.length := (List.getElem?_eq_some_iff.1 hs).1
  have := h4 i s' x' (by rw [List.getElem?_append_left hi]; exact hs) (by rw [List.getElem?_append_left (by omega)]; exact hx)
  exact ⟨hoff (by decide) this.1, this.2⟩
end Go.Proofs.YtniggdaakiofeaaDoor
