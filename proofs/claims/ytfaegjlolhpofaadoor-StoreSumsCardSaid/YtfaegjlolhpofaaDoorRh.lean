/- The same, for the walk. -/
import Derived.Test.YtfaegjlolhpofaaDoorRg
namespace Go.Proofs.YtfaegjlolhpofaaDoor
open Go.RowKit Go.Sort
set_option maxHeartbeats 800000

theorem srcOf_ext {w w' : World} {xv : Value} {L : List Key} (hE : Ext w w') (h : SrcOf w xv L) : SrcOf w' xv L := by
  obtain ⟨A, c, h1, h2⟩ := h
  refine ⟨A, c, h1, fun hne => ?_⟩
  obtain ⟨ad, h3, h4⟩ := h2 hne
  refine ⟨ad, h3, fun j u hu => ?_⟩
  have h5 := h4 j u hu
  have hb : (Addr.add ad j).block = ad.block := by unfold Addr.add; split <;> rfl
  have hlt : (Addr.add ad j).block < w.heap.size := World.block_lt_of_cell? _ _ h5
  exact (World.cell?_of_block (w := w) (a := Addr.add ad j) (ext_block hE hlt)).trans h5

theorem runs_full {o : Oper} {a : Act} {w : World} {H : Nat} {sv xv : Value} {L : List Key} {k : Key} (s x : Operand) (ho : o.op = .call { callee := .builtin .append, args := #[s, x], argTypes := #[45, 45] }) (hs : a.eval s = sv) (hx : a.eval x = xv)
    (A : Option Addr) (hsv : sv = .slice A L.length L.length) (hr : SrcOf w sv L) (hm : L.length < 1000000) (hk : oneF H k xv w) (hH : H ≤ w.heap.size) : runsAt Tryd.prog o a (fun v w' => Ext w w' ∧ rowF H (L ++ [k]) v w') w := by
  subst hsv
  obtain ⟨gk, rfl, _, hbk⟩ := hk
  obtain ⟨v', w', hrun, hE, hR⟩ := append_full o.type A L k w H gk hr hm hbk hH
  unfold runsAt
  simp [execOp, ho, resolve, invoke, builtin, hs, hx, hrun, Result.andThen]
  exact ⟨hE, hR⟩

theorem wpList_copy2 {ops : Array Oper} {rest : List Oper} {o : Oper} {a : Act} {w : World} {Q : Exit → Act → World → Prop} (hgd : o.guard = none) (s x : Operand) (ho : o.op = .call { callee := .builtin .append, args := #[s, x], argTypes := #[45, 45] })
    (g0 H : Nat) (hs : a.eval s = .slice (some ⟨g0, 0, none⟩) 0 0) (lv : Value) (L : List Key) (hx : a.eval x = lv) (hr : SrcOf w lv L) (hm : L.length ≤ 1000000) (h0 : w.heap[g0]? = some (.cells #[] 22 (0, 0))) (hH : H ≤ g0)
    (h : ∀ v' w', Ext w w' → rowF H L v' w' → wpList Tryd.prog ops Q rest (a.put o.dst v') w') : wpList Tryd.prog ops Q (o :: rest) a w := by
  obtain ⟨v', w', hrun, hE, hR⟩ := append_copy2 o.type g0 lv L w H hr hm h0 hH
  refine wpList_plain hgd fun K hK => ?_
  unfold Oper.wp
  simp [execOp, ho, resolve, invoke, builtin, hs, hx, hrun, Result.andThen]
  exact hK _ _ (h _ _ hE hR)

/-- behind a row that is owned, with room or without -/
theorem wpList_onto {ops : Array Oper} {rest : List Oper} {o : Oper} {a : Act} {w : World} {Q : Exit → Act → World → Prop} (hgd : o.guard = none) (s x : Operand) (ho : o.op = .call { callee := .builtin .append, args := #[s, x], argTypes := #[45, 45] })
    (H : Nat) (v : Value) (L M : List Key) (hs : a.eval s = v) (hv : rowF H L v w) (xv : Value) (hx : a.eval x = xv) (hr : SrcOf w xv M) (hm : L.length + M.length ≤ 1000000) (hH : H ≤ w.heap.size)
    (h : ∀ v' w', rowF H (L ++ M) v' w' → w.grownBy w' v.ownBlock → wpList Tryd.prog ops Q rest (a.put o.dst v') w') : wpList Tryd.prog ops Q (o :: rest) a w := by
  obtain ⟨i0, hi, hz0, hz1, hz2⟩ := info_parts info22
  obtain ⟨A, c, rfl, hA⟩ := hr
  cases M with
  | nil =>
    obtain ⟨B, n, c1, hv1, hc1⟩ : ∃ B n c1, v = .slice B n c1 ∧ n ≤ c1 := by
      rcases rowL_cases hv.1 with ⟨h, _⟩ | ⟨_, _, _, h, _, h2, _⟩
      · exact ⟨_, _, _, h, Nat.le_refl _⟩
      · exact ⟨_, _, _, h, h2⟩
    refine wpList_nothing hgd s x ho B n c1 (hs.trans hv1) hc1 A c hx ?_
    rw [← hv1]
    exact h v w (by rw [List.append_nil]; exact hv) (World.grownBy.refl w _)
  | cons k M =>
    obtain ⟨ad, rfl, hc⟩ := hA (by simp)
    refine wpList_append_lies _ hgd s x 45 ho 0 22 i0 (K3 0 0 0) 3 24 Tryd.underlying45 hi hz0 hz1 hz2 rfl (by decide) v L.length (flat L) hs hv.1 ad (k :: M).length c (flat (k :: M)) hx (flat_length _) hc (flat_one _) (by simp) (by unfold maxLen; omega) (by omega) (Nat.zero_le _) _ rfl ?_
    intro g' cap' w4 hown hgr hor hlt
    refine h _ _ ⟨?_, fun g hg => ?_⟩ hgr
    · unfold rowL
      rw [List.length_append, flat_append]
      exact hown
    · cases hg
      rcases hor with h1 | h1
      · exact hv.2 _ h1
      · show H ≤ g'; omega
end Go.Proofs.YtfaegjlolhpofaaDoor
