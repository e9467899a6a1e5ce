/- Blocks that a walk has made; a table of one row; what Build makes. -/
import Derived.Test.YtniggdaakiofeaaDoorTj
import Derived.Test.YtniggdaakiofeaaDoorSs
namespace Go.Proofs.YtniggdaakiofeaaDoor
open Go Go.RowKit Go.Sort

theorem ext1 {w w' : World} {o0 : Obj} (h : Ext (w.alloc o0) w') : Ext w w' ∧ w'.heap[w.heap.size]? = some o0 :=
  ⟨ext_trans (ext_alloc (ext_refl _) _) h, (ext_block h (block_lt (heap_alloc_new w o0))).trans (heap_alloc_new w o0)⟩
theorem ext2 {w w' : World} {o0 o1 : Obj} (h : Ext ((w.alloc o0).alloc o1) w') : Ext w w' ∧ w'.heap[w.heap.size]? = some o0 ∧ w'.heap[w.heap.size + 1]? = some o1 := by
  obtain ⟨h1, h2⟩ := ext1 h
  obtain ⟨h3, h4⟩ := ext1 h1
  exact ⟨h3, h4, by simpa using h2⟩
theorem ext3 {w w' : World} {o0 o1 o2 : Obj} (h : Ext (((w.alloc o0).alloc o1).alloc o2) w') : Ext w w' ∧ w'.heap[w.heap.size]? = some o0 ∧ w'.heap[w.heap.size + 1]? = some o1 ∧ w'.heap[w.heap.size + 1 + 1]? = some o2 := by
  obtain ⟨h1, h2⟩ := ext1 h
  obtain ⟨h3, h4, h5⟩ := ext2 h1
  exact ⟨h3, h4, h5, by simpa using h2⟩
theorem ext4 {w w' : World} {o0 o1 o2 o3 : Obj} (h : Ext ((((w.alloc o0).alloc o1).alloc o2).alloc o3) w') : Ext w w' ∧ w'.heap[w.heap.size]? = some o0 ∧ w'.heap[w.heap.size + 1]? = some o1 ∧ w'.heap[w.heap.size + 1 + 1]? = some o2 ∧ w'.heap[w.heap.size + 1 + 1 + 1]? = some o3 := by
  obtain ⟨h1, h2⟩ := ext1 h
  obtain ⟨h3, h4, h5, h6⟩ := ext3 h1
  exact ⟨h3, h4, h5, h6, by simpa using h2⟩
theorem ext5 {w w' : World} {o0 o1 o2 o3 o4 : Obj} (h : Ext (((((w.alloc o0).alloc o1).alloc o2).alloc o3).alloc o4) w') : Ext w w' ∧ w'.heap[w.heap.size]? = some o0 ∧ w'.heap[w.heap.size + 1]? = some o1 ∧ w'.heap[w.heap.size + 1 + 1]? = some o2 ∧ w'.heap[w.heap.size + 1 + 1 + 1]? = some o3 ∧ w'.heap[w.heap.size + 1 + 1 + 1 + 1]? = some o4 := by
  obtain ⟨h1, h2⟩ := ext1 h
  obtain ⟨h3, h4, h5, h6, h7⟩ := ext4 h1
  exact ⟨h3, h4, h5, h6, h7, by simpa using h2⟩
/-- a table of one row, of a row that lies in a block of its own -/
theorem td_one {w : World} {v : Value} {V : List ByteArray} {B : Option Addr} {n c : Nat} {r : List VarN} (h : rowE elS w v V) (hr : rowE elP w (.slice B n c) r) : TD (w.alloc (.cells #[.slice B n c] 52)) (.agg #[v, .slice (some ⟨w.heap.size, 0, none⟩) 1 1]) V [r] := by
  have hn := (rowE_cap hr).1
  subst hn
  have h1 : oneF elQ 0 (B, r.length, c) (.slice (some ⟨w.heap.size, 0, none⟩) 1 1) (w.alloc (.cells #[.slice B r.length c] 52)) := ⟨w.heap.size, rfl, Nat.zero_le _, heap_alloc_new w _⟩
  refine ⟨_, _, rfl, rowE_ext h (ext_alloc (ext_refl _) _), [(B, r.length, c)], (oneF_row h1).1, rfl, fun i s r' hs hr' => ?_⟩
  cases i with
  | zero =>
    simp only [List.getElem?_cons_zero, Option.some.injEq] at hs hr'
    subst hs hr'
    exact rowE_ext hr (ext_alloc (ext_refl _) _)
  | succ i => simp at hs

/-- what an append to a document's table's rows has made, ahead of the store -/
def WM (ok : Nat → Prop) (p : Nat) (V : List ByteArray) (T : List (List VarN)) (w : World) (rv v' : Value) (w' : World) : Prop :=
  TDB ok (w'.setCell ⟨p, 1, none⟩ v') p V T ∧ Upd (fun b => rv.ownBlock = some b ∨ b = p) w (w'.setCell ⟨p, 1, none⟩ v') ∧ w'.cell? ⟨p, 1, none⟩ = some rv ∧ w'.frozen? ⟨p, 1, none⟩ = false ∧ p < w'.heap.size ∧ ∃ A n c, v' = .slice A n c
theorem want_run {ok : Nat → Prop} {w : World} {p : Nat} {V : List ByteArray} {T : List (List VarN)} {vv rv : Value} {sl : List Sl} {B : Option Addr} {n d : Nat} {r : List VarN} (ty : TypeId) (hb : w.heap[p]? = some (.cells #[vv, rv] 34 (0, 0))) (h2 : rowE elS w vv V) (h3 : rowG elQ ok sl rv w) (h4 : RowsQ w sl T)
    (hr : rowE elP w (.slice B n d) r) (hl : sl.length ≤ 1000000) (hok : ∀ b, w.heap.size ≤ b → ok b) :
    ∃ v' w', (Builtin.append_ #[32, 32] ty #[rv, .slice (some ⟨w.heap.size, 0, none⟩) 1 1]).run Tryd.prog (w.alloc (.cells #[.slice B n d] 52)) = .ok v' w' ∧ WM ok p V (T ++ [r]) w rv v' w' := by
  have hE : Ext w (w.alloc (.cells #[.slice B n d] 52)) := ext_alloc (ext_refl _) _
  obtain ⟨v', w', hrun, hR, hG⟩ := append_ok tpQ ty ok rv (.slice (some ⟨w.heap.size, 0, none⟩) 1 1) sl [((B, n, d) : Sl)] (w.alloc (.cells #[.slice B n d] 52)) (rowG_ext _ _ _ hE h3) (srcOf_one (H := 0) ⟨w.heap.size, rfl, Nat.zero_le _, heap_alloc_new w _⟩) (by simp; omega) (fun b hb => hok b (Nat.le_trans (ext_size hE) hb))
  obtain ⟨k1, k2⟩ := tDB_more hb h2 h3 h4 hE (s := ((B, n, d) : Sl)) (rowE_ext hr hE) (upd_grown hG) hR
  have hne : ¬ rv.ownBlock = some p := fun e => rowE_off h3.1 hb (by decide) e
  have hb5 := ((upd_grown hG).block p (ext_lt hE (block_lt hb)) hne).trans ((ext_block hE (block_lt hb)).trans hb)
  obtain ⟨A, c, hv⟩ := rowE_form hR.1
  exact ⟨v', w', hrun, k1, k2, block_cell hb5 1, block_frozen hb5 1, block_lt hb5, A, _, c, hv⟩

theorem rdQ_lt {w : World} {g n c : Nat} {R : List (List VarN)} (h : RdQ w (.slice (some ⟨g, 0, none⟩) n c) R) (hne : R ≠ []) : g < w.heap.size := by
  obtain ⟨sl, h1, h2⟩ := h
  exact (rowE_block h1 rfl).1
/-- what is known of a table that Build makes -/
structure IsT (U : List ByteArray) (M : List (List VarN)) : Prop where
  rise : RiseS U
  vars : U.length ≤ 5
  rows : M.length ≤ 8
  ok : ∀ r ∈ M, okR U r
  small : ∀ r ∈ M, smallP r
  len : ∀ r ∈ M, r.length ≤ 20
theorem isT_of {xs : List Nat} {rs : List (List Nat)} (h : fewB xs rs = true) : IsT (setS (namesOf xs)) (docT xs rs) :=
  ⟨rise_setS _, vars_len xs, docT_len xs rs, fun r hr => (docT_mem (few_bounds h).2.2 hr).1, fun r hr => (docT_mem (few_bounds h).2.2 hr).2.1, fun r hr => (docT_mem (few_bounds h).2.2 hr).2.2⟩
theorem build_spec (v : Value) (xs : List Nat) (rs : List (List Nat)) (U : List ByteArray) (M : List (List VarN)) (w : World) (hU : U = setS (namesOf xs)) (hM : M = docT xs rs) (h : RawV w v xs rs) (hf : fewB xs rs = true) :
    Calls Tryd.prog 11 #[v] w fun e w' => ∃ P i Q j D k G o, e = .returned (.tuple #[.agg #[.slice P U.length i, .slice Q M.length j], .agg #[.slice D U.length k, .slice G M.length o]]) ∧ Own w.heap.size w' (.slice P U.length i) (.slice Q M.length j) U (rowsD U M) ∧ TD w' (.agg #[.slice D U.length k, .slice G M.length o]) U M ∧ Ext w w' := by
  subst hU hM
  refine (build_law v xs rs w h hf).mono ?_
  rintro e w' ⟨vv, rv, dv, rfl, how, htd, hE⟩
  obtain ⟨P, i, rfl⟩ := rdS_form (rdS_row how.1.1)
  obtain ⟨Q, j, rfl⟩ := rdW_form (own_rdW how)
  obtain ⟨dvv, drv, rfl, d1, d2⟩ := htd
  obtain ⟨D, k, rfl⟩ := rowE_form d1
  obtain ⟨G, o, rfl⟩ := rdQ_form d2
  rw [rowsD_len] at how ⊢
  exact ⟨P, i, Q, j, D, k, G, o, rfl, how, ⟨_, _, rfl, d1, d2⟩, hE⟩
end Go.Proofs.YtniggdaakiofeaaDoor
