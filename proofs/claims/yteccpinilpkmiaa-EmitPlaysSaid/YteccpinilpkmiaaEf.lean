/- slices.Sort, slices.Clone on rows of strings. -/
import Derived.Sort.OwnSorted
import Derived.Lib.OwnBridge
import Derived.Test.YteccpinilpkmiaaSh
import Derived.Test.YteccpinilpkmiaaEd
namespace Go.Proofs.Yteccpinilpkmiaa
open Go Go.RowKit Go.Sort
set_option maxHeartbeats 800000

def toL (s : ByteArray) : List UInt8 := s.data.toList
def ofL (l : List UInt8) : ByteArray := ⟨l.toArray⟩
theorem ofL_toL (s : ByteArray) : ofL (toL s) = s := rfl
theorem toL_ofL (l : List UInt8) : toL (ofL l) = l := rfl
theorem flatS (L : List ByteArray) : flatE elS L = (L.map toL).map encStr := by
  induction L with
  | nil => rfl
  | cons x L ih => rw [flatE_cons, ih]; rfl
/-- what sorting makes -/
def sortS (L : List ByteArray) : List ByteArray := ((L.map toL).mergeSort fun x y => decide (x ≤ y)).map ofL
theorem sortS_toL (L : List ByteArray) : (sortS L).map toL = (L.map toL).mergeSort fun x y => decide (x ≤ y) := by
  unfold sortS
  rw [List.map_map]
  exact List.map_id _
theorem sortS_length (L : List ByteArray) : (sortS L).length = L.length := by simp [sortS]
theorem upd_sort {w : World} {g n : Nat} {d : Array (List UInt8)} {os : Array Obj} : Upd (fun b => b = g) w (grow (putRow encStr (Sort.ahead w n) g 0 d) os) := by
  refine ⟨rfl, rfl, rfl, by simp [grow, putRow, mapBlock, Sort.ahead], fun k hk hn => ?_⟩
  have h2 : k ≠ g := hn
  rw [heap_grow_old _ _ (by simpa using hk)]
  simp only [putRow, mapBlock, Sort.ahead, Array.getElem?_modify]
  rw [if_neg (fun e => h2 e.symm)]
def SortPost (H : Nat) (v : Value) (L : List ByteArray) (w : World) (e : Ending) (w' : World) : Prop :=
  e = .returned (.tuple #[]) ∧ rowF elS H (sortS L) v w' ∧ Upd (fun b => v.ownBlock = some b) w w'
theorem sort_any (H : Nat) (v : Value) (L : List ByteArray) (w : World) (h : rowF elS H L v w) (hm : L.length ≤ 1000000) : Calls Try.prog 22 #[v] w (SortPost H v L w) := by
  rcases rowE_cases h.1 with ⟨rfl, rfl⟩ | ⟨g, cap, cur, rfl, hg, h1, h2, h3, h4⟩
  · refine (Try.slices_Sort_string_none none 0 w).mono ?_
    rintro e w' ⟨rfl, rfl⟩
    exact ⟨rfl, (by have : sortS [] = [] := by simp [sortS]
                    rw [this]; exact rowF_nil _ _), upd_refl⟩
  · have hl : (L.map toL).length = L.length := by simp
    have hH : Holds encStr w g 0 (L.map toL).toArray := by
      intro j hj
      have hj' : j < L.length := by simpa using hj
      have hx : L[j]? = some L[j] := List.getElem?_eq_getElem hj'
      have hc := rowS_cell h.1 hx
      rw [Nat.zero_add]
      refine ⟨?_, block_frozen hg j⟩
      rw [hc]
      simp [getElem!_pos, hj', toL]
    have hs := Try.slices_Sort_string g 0 cap (L.map toL) w hH (block_lt hg) (by rw [hl]; omega)
    rw [hl] at hs
    refine hs.mono ?_
    rintro e w' ⟨rfl, n, os, rfl⟩
    have hlen : ((L.map toL).mergeSort fun x y => decide (x ≤ y)).length = (L.map toL).length := by simp
    have hown := ownsRow_sorted (n := n) (os := os) (base := H) hlen (h.2 g rfl) hg (by rw [hl]; exact h1) h2 (by rw [h3]; rfl)
    refine ⟨rfl, ?_, upd_mono upd_sort (fun b _ e => by rw [e]; rfl)⟩
    rw [hl] at hown
    exact row_base hown (sortS_length L).symm (by rw [flatS, sortS_toL]) (Nat.le_refl _)

/-- Clone -/
theorem clone_any (v : Value) (L : List ByteArray) (w : World) (h : RdS w v L) (hm : L.length ≤ 1000000) :
    Calls Try.prog 23 #[v] w fun e w' => ∃ v', e = .returned v' ∧ rowF elS w.heap.size L v' w' ∧ Ext w w' := by
  have HSRC := Lib.hid (rdS_src h)
  obtain ⟨A, c, rfl, _, hA⟩ := h
  cases A with
  | none =>
    have hL : L = [] := Classical.byContradiction fun hne => by obtain ⟨b, off, h, _⟩ := hA hne; cases h
    subst hL
    clear hA HSRC
    have hnil := fun (w : World) => Lib.run_eql_slice_nil (P := Try.prog) w 22 9 none 0 c 0 0 Try.underlying22
    go_enter Try.func23, Try.ntmps23
    go_wp2_with fail
    go_ret
    exact ⟨_, rfl, rowF_nil _ _, ext_refl _⟩
  | some a =>
    clear hA
    obtain ⟨n, hn⟩ : ∃ n, n = L.length := ⟨_, rfl⟩
    rw [← hn]
    have HN := Lib.hid hn
    clear hn
    have hnil := fun (w : World) => Lib.run_eql_slice_nil (P := Try.prog) w 22 9 (some a) n c 0 0 Try.underlying22
    go_enter Try.func23, Try.ntmps23
    go_wp2_with (at_builtin; refine halt_here ?_)
    refine go_on ?_
    refine wpList_append rfl (.tmp 5) (.tmp 6) rfl _ _ rfl rfl (fun v' w' => Ext (w.alloc (.cells #[] 9)) w' ∧ rowF elS w.heap.size L v' w') (append_copy tpS _ w.heap.size _ _ L _ ⟨w.heap.size, rfl, Nat.le_refl _, heap_alloc_new w _⟩ (by have := srcOf_ext (ext_alloc (ext_refl w) (.cells #[] 9)) HSRC.out; rw [← HN.out] at this; exact this) (by omega)) ?_
    rintro v5 w5 ⟨hE5, hR5⟩
    have HE5 := Lib.hid (ext_trans (ext_alloc (ext_refl w) (.cells #[] 9)) hE5)
    have HR5 := Lib.hid hR5
    clear hE5 hR5
    go_wp2
    go_ret
    exact ⟨_, rfl, HR5.out, HE5.out⟩
end Go.Proofs.Yteccpinilpkmiaa
