/- Maps from strings to ints, seen as functions. -/
import Derived.Maps.OwnOps
import Derived.StringKeys
import Derived.Maps.Views
import Derived.Test.YtniggdaakiofeaaDoorGr
namespace Go.Proofs.YtniggdaakiofeaaDoor
open Go Go.RowKit Go.Sort Go.WideMaps Go.Maps

def MapI (P : Program) (k e : TypeId) (b N : Nat) (f : ByteArray → Int) (w : World) : Prop :=
  ∃ (n : Nat) (D : DataW Unit), n ≤ N ∧ w.ownsMap P k (plainElem P e) b n D ∧ ∀ s : ByteArray, s.size ≤ maxLen → D.atKey (.string s.data.toList) (.lit (.int .i64 0)) = .lit (.int .i64 (f s))
section
variable {P : Program} {k e : TypeId} {b N : Nat} {f : ByteArray → Int}
theorem mapI_made (w : World) : MapI P k e w.heap.size 0 (fun _ => 0) (w.alloc (.map #[] 0)) :=
  ⟨0, .map [], Nat.le_refl _, World.ownsMap_made w P k _, fun _ _ => rfl⟩
theorem mapI_lt {w : World} (h : MapI P k e b N f w) : b < w.heap.size := by
  obtain ⟨n, D, _, ⟨es, clock, hb, _⟩, _⟩ := h
  exact block_lt hb
theorem mapI_block {w w' : World} (h : MapI P k e b N f w) (hb : w'.heap[b]? = w.heap[b]?) : MapI P k e b N f w' := by
  obtain ⟨n, D, h1, ⟨es, clock, h2, h3⟩, h4⟩ := h
  exact ⟨n, D, h1, ⟨es, clock, hb.trans h2, h3⟩, h4⟩
theorem mapI_ext {w w' : World} (h : MapI P k e b N f w) (hE : Ext w w') : MapI P k e b N f w' := mapI_block h (ext_block hE (mapI_lt h))
theorem mapI_off {w : World} (h : MapI P k e b N f w) {cs : Array Value} {t : TypeId} {fr : Nat × Nat} {g : Nat} (hg : w.heap[g]? = some (.cells cs t fr)) : g ≠ b := fun e => by
  obtain ⟨n, D, h1, ⟨es, clock, h2, h3⟩, h4⟩ := h
  subst e
  rw [h2] at hg
  cases hg
theorem mapI_congr {w : World} {f' : ByteArray → Int} {N' : Nat} (h : MapI P k e b N f w) (hf : ∀ s, f s = f' s) (hN : N ≤ N') : MapI P k e b N' f' w := by
  obtain ⟨n, D, h1, h2, h4⟩ := h
  exact ⟨n, D, Nat.le_trans h1 hN, h2, fun s hs => by rw [h4 s hs, hf s]⟩
theorem isMap_of_own {w : World} {n : Nat} {D : DataW Unit} (h : w.ownsMap P k (plainElem P e) b n D) : ∃ es, D = .map es := by
  obtain ⟨es, clock, _, _, _, h⟩ := h
  exact ⟨_, h⟩

theorem wpList_lookup_I {w : World} {ops : Array Oper} {rest : List Oper} {o : Oper} {a : Act} {Q : Exit → Act → World → Prop} (hg : o.guard = none) (m x : Operand) (t : TypeId) (hop : o.op = Op.lookup t m x false)
    (hk : P.underlying k = some .string) (ht : P.underlying t = some (.map k e)) (he : P.underlying e = some (.int .i64)) (hz : (zeroValue e).run P w = .ok (.int .i64 0) w)
    (hm : a.eval m = .map (some b)) (h : MapI P k e b N f w) (s : ByteArray) (hx : a.eval x = .string s) (hs : s.size ≤ maxLen) (c : Int) (hc : f s = c)
    (hK : wpList P ops Q rest (a.put o.dst (.int .i64 c)) w) : wpList P ops Q (o :: rest) a w := by
  subst hc
  obtain ⟨n, D, h1, h2, h4⟩ := h
  refine wpList_lookup_own_int w hg m x t hop k e .i64 (string_keyed hk) ht he hz b n D hm h2 (.string s) (.string s.data.toList) hx (keyOf_string_mk hk hs) (fun c hat _ => ?_)
  have := h4 s hs
  rw [hat] at this
  simp only [DataW.lit.injEq, Lit.int.injEq, true_and] at this
  subst this
  exact hK
theorem wpList_update_I {w : World} {ops : Array Oper} {rest : List Oper} {o : Oper} {a : Act} {Q : Exit → Act → World → Prop} (hg : o.guard = none) (m x v : Operand) (t : TypeId) (hop : o.op = Op.mapUpdate t m x v)
    (hk : P.underlying k = some .string) (ht : P.underlying t = some (.map k e)) (he : P.underlying e = some (.int .i64))
    (hm : a.eval m = .map (some b)) (h : MapI P k e b N f w) (hN : N < maxLen) (s : ByteArray) (hx : a.eval x = .string s) (hs : s.size ≤ maxLen) (c : Int) (hv : a.eval v = .int .i64 c) (hc : (Lit.int .i64 c).wf = true)
    (hK : ∀ w', MapI P k e b (N + 1) (fun s' => if s' = s then c else f s') w' → w.grownBy w' (some b) → wpList P ops Q rest (a.put o.dst undef) w') : wpList P ops Q (o :: rest) a w := by
  obtain ⟨n, D, h1, h2, h4⟩ := h
  refine wpList_mapUpdate_own w hg m x v t hop k e (string_keyed hk) ht (plainElem P e) b n D hm h2 (by omega) (.string s) (.int .i64 c) (.string s.data.toList) hx hv (keyOf_string_mk hk hs) (.lit (.int .i64 c)) [] (plainElem_int he hc) (fun w' h5 h6 => hK w' ⟨n + 1, _, by omega, h5, fun s' hs' => ?_⟩ h6)
  obtain ⟨es, hes⟩ := isMap_of_own h2
  by_cases e : s' = s
  · subst e
    simp only [if_true]
    exact Maps.atKey_put_same (by rw [hes]; exact ⟨_, rfl⟩) (by exact trivial) _ _
  · simp only [if_neg e]
    rw [Maps.atKey_put_other]
    · exact h4 s' hs'
    · intro hh
      simp only [Lit.string.injEq] at hh
      exact e (by
        cases s'; cases s
        simp at hh
        rw [hh])
end
end Go.Proofs.YtniggdaakiofeaaDoor
