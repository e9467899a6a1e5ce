/- The document's store: rows copied and lengthened. -/
import Derived.ArgAppend
import Derived.Deep.Upon
import Derived.Deep.AppendLies
import Derived.Test.YtfaegjlolhpofaaDoorRa
import Derived.Test.YtfaegjlolhpofaaDoorGen
namespace Go.Proofs.YtfaegjlolhpofaaDoor
open Go.RowKit Go.Sort
set_option maxHeartbeats 800000

theorem info22 : (Tryd.prog.info? 22).map (fun i => (i.zero, i.size, i.bytes)) = some (some (K3 0 0 0), 3, 24) := by kernel_rfl

/-- a row that lies at or beyond a place -/
def rowF (H : Nat) (L : List Key) (v : Value) (w : World) : Prop := rowL w v L ∧ ∀ g, v.ownBlock = some g → H ≤ g
/-- a fresh row of none, without room -/
def noneF (H : Nat) (v : Value) (w : World) : Prop := ∃ g, v = .slice (some ⟨g, 0, none⟩) 0 0 ∧ H ≤ g ∧ w.heap[g]? = some (.cells #[] 22 (0, 0))
theorem rowF_ext {H : Nat} {L : List Key} (v : Value) (w w' : World) (hE : Ext w w') (h : rowF H L v w) : rowF H L v w' := ⟨row_ext h.1 hE, h.2⟩
theorem noneF_ext {H : Nat} (v : Value) (w w' : World) (hE : Ext w w') (h : noneF H v w) : noneF H v w' := by
  obtain ⟨g, h1, h2, h3⟩ := h
  exact ⟨g, h1, h2, (ext_block hE (block_lt h3)).trans h3⟩

theorem ext_grown_none {w w' : World} (h : w.grownBy w' none) : Ext w w' := (Below.refl w.heap.size w).grown h (Nat.le_refl _) (fun k e => by cases e)
theorem row_base {w : World} {H base : Nat} {L : List Key} {v : Value} {n : Nat} {xs : List Value} (h : w.ownsRow base 22 3 v n xs) (hn : n = L.length) (hx : xs = flat L) (hH : H ≤ base) : rowF H L v w := by
  subst hn hx
  refine ⟨⟨h.1, ?_⟩, fun g hg => Nat.le_trans hH (World.ownsRow.lt h g hg).1⟩
  rcases h.2 with h2 | ⟨g, cap, cur, h1, h2, h3⟩
  · exact .inl h2
  · exact .inr ⟨g, cap, cur, h1, Nat.zero_le _, h3⟩
theorem flat_news {w : World} {g : Nat} {cur : Array Value} {t : TypeId} {L : List Key} (hg : w.heap[g]? = some (.cells cur t (0, 0))) (h4 : cur.toList.take (L.length * 3) = flat L) : ∀ j u, (flat L)[j]? = some u → w.cell? ((⟨g, 0, none⟩ : Addr).add j) = some u := fun j u hu => by
  refine World.news_of_block hg j u ?_
  rw [← h4, List.getElem?_take] at hu
  split at hu
  · exact hu
  · cases hu

theorem append_copy (ty : TypeId) (g0 : Nat) (lv : Value) (L : List Key) (w : World) (H : Nat) (hr : rowL w lv L) (hm : L.length ≤ 1000000) (h0 : w.heap[g0]? = some (.cells #[] 22 (0, 0))) (hH : H ≤ g0) :
    ∃ v' w', (Builtin.append_ #[45, 45] ty #[.slice (some ⟨g0, 0, none⟩) 0 0, lv]).run Tryd.prog w = .ok v' w' ∧ Ext w w' ∧ rowF H L v' w' := by
  obtain ⟨i0, hi, hz0, hz1, hz2⟩ := info_parts info22
  have hnil : rowL w (.slice (some ⟨g0, 0, none⟩) 0 0) [] := ⟨rfl, .inr ⟨g0, 0, #[], rfl, Nat.zero_le _, h0, Nat.le_refl _, by decide, rfl, rfl⟩⟩
  have hlt := block_lt h0
  rcases rowL_cases hr with ⟨rfl, rfl⟩ | ⟨g, cap, cur, rfl, hg, h1, h2, h3, h4⟩
  · exact ⟨_, _, run_append_nothing (P := Tryd.prog) w 45 45 ty 22 i0 Tryd.underlying45 hi (some ⟨g0, 0, none⟩) 0 0 (Nat.le_refl _) (.slice none 0 0) (Src.ofNil w Tryd.underlying45 0), ext_refl _, hnil, fun g hg => by cases hg; exact hH⟩
  · cases L with
    | nil => exact ⟨_, _, run_append_nothing (P := Tryd.prog) w 45 45 ty 22 i0 Tryd.underlying45 hi (some ⟨g0, 0, none⟩) 0 0 (Nat.le_refl _) (.slice (some ⟨g, 0, none⟩) 0 cap) (Src.ofSlice w Tryd.underlying45 ⟨g, 0, none⟩ 0 cap [] (by simp) (fun j u h => by simp at h) (fun _ h => by cases h)), ext_refl _, hnil, fun g hg => by cases hg; exact hH⟩
    | cons k L =>
      obtain ⟨v', w', hrun, hown, hgr⟩ := run_append_arg_grows (P := Tryd.prog) w 45 ty 22 i0 (K3 0 0 0) 3 24 Tryd.underlying45 hi hz0 hz1 hz2 rfl (by decide) ⟨g0, 0, none⟩ 0 0 [] rfl (fun j u h => by simp at h)
        ⟨g, 0, none⟩ (k :: L).length cap (flat (k :: L)) (flat_length _) (flat_news hg h4) (by simp) (by unfold maxLen; omega) (by omega)
      exact ⟨v', w', hrun, ext_grown_none hgr, row_base hown (by simp) (by simp) (by omega)⟩

theorem runs_copy {o : Oper} {a : Act} {w : World} {H : Nat} {sv lv : Value} {L : List Key} (s x : Operand) (ho : o.op = .call { callee := .builtin .append, args := #[s, x], argTypes := #[45, 45] }) (hs : a.eval s = sv) (hx : a.eval x = lv)
    (hsv : noneF H sv w) (hr : rowL w lv L) (hm : L.length ≤ 1000000) : runsAt Tryd.prog o a (fun v w' => Ext w w' ∧ rowF H L v w') w := by
  obtain ⟨g0, h1, h2, h3⟩ := hsv
  obtain ⟨v', w', hrun, hE, hR⟩ := append_copy o.type g0 lv L w H hr hm h3 h2
  rw [h1] at hs
  unfold runsAt
  simp [execOp, ho, resolve, invoke, builtin, hs, hx, hrun, Result.andThen]
  exact ⟨hE, hR⟩
end Go.Proofs.YtfaegjlolhpofaaDoor
