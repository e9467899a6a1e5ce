/- find, in, Len, New. -/
import Derived.Test.YtojgbphmkloicaaBs
namespace Go.Proofs.Ytojgbphmkloicaa
open Go Go.RowKit Go.Sort
set_option maxHeartbeats 1000000

theorem find_any (pb : Nat) (room : Int) (bs : List Bk) (ps : List (Nat × Nat)) (v : Value) (F : Nat → Prop) (t : Int) (w : World) (h : BagAt w pb room bs ps v F) (hm : bs.length ≤ 1000000) :
    Calls Try.prog 14 #[ptr pb, .int .i64 t] w fun e w' => e = .returned (.tuple #[.int .i64 (idxB bs t : Int), .bool (thereB bs t)]) ∧ w' = w := by
  have C := Lib.hid (bsearch_any pb room bs ps v F t w h hm)
  have q0 := block_cell h.blk 0
  have l0 := block_lt h.blk
  clear h
  go_enter Try.func14, Try.ntmps14
  go_wp2_with (go_at_call 23; refine C.out.mono ?_; rintro e w1 ⟨rfl, rfl⟩)
  go_ret2
  exact ⟨rfl, rfl⟩
/-- pointers as they lie -/
def RdP (w : World) (v : Value) (L : List Nat) : Prop := ∃ A c, v = .slice A L.length c ∧ (L ≠ [] → ∃ g off, A = some ⟨g, off, none⟩ ∧ g < w.heap.size ∧ ∀ (i p : Nat), L[i]? = some p → w.cell? ⟨g, off + i, none⟩ = some (ptr p))
theorem rdP_ext {w w' : World} {v : Value} {L : List Nat} (h : RdP w v L) (hE : Ext w w') : RdP w' v L := by
  obtain ⟨A, c, h1, h2⟩ := h
  refine ⟨A, c, h1, fun hne => ?_⟩
  obtain ⟨g, off, h3, h4, h5⟩ := h2 hne
  exact ⟨g, off, h3, ext_lt hE h4, fun i p hi => (ext_cell hE _ _ h4).trans (h5 i p hi)⟩
theorem rdP_nil (w : World) (A : Option Addr) (c : Nat) (L : List Nat) (i : Nat) : RdP w (.slice A 0 c) ((L.take i).drop i) := by
  rw [List.drop_eq_nil_of_le (by rw [List.length_take]; omega)]
  exact ⟨A, c, rfl, fun h => absurd rfl h⟩
theorem rdP_cut {w : World} {g i m c : Nat} {L : List Nat} (hc : ∀ (k p : Nat), L[k]? = some p → w.cell? ⟨g, k, none⟩ = some (ptr p)) (hg : g < w.heap.size) (h2 : m ≤ L.length) : RdP w (.slice (some ⟨g, i, none⟩) (m - i) c) ((L.take m).drop i) := by
  refine ⟨_, c, by rw [List.length_drop, List.length_take]; congr 1; omega, fun _ => ⟨g, i, rfl, hg, fun k p hk => ?_⟩⟩
  rw [List.getElem?_drop, List.getElem?_take] at hk
  split at hk
  · exact hc _ _ hk
  · cases hk
theorem len_any (pb : Nat) (room : Int) (E : List Ev) (F : Nat → Prop) (w : World) (h : BagM w pb room E F) : Calls Try.prog 10 #[ptr pb] w fun e w' => e = .returned (.int .i64 (E.length : Int)) ∧ w' = w := by
  obtain ⟨bs, ps, v, h1, h2, -⟩ := h
  have q0 := block_cell h1.blk 2
  have l0 := block_lt h1.blk
  have HE := Lib.hid (show lenB bs = E.length by rw [lenB_flat, h2.length_eq])
  clear h1 h2
  go_enter Try.func10, Try.ntmps10
  go_wp2
  refine bodyPost_ret (results_tmp rfl _ _ _) rfl ?_
  exact ⟨by rw [← HE.out]; rfl, rfl⟩
theorem new_any (room : Nat) (h1 : 1 ≤ room) (h2 : room ≤ 100000) (w : World) : Calls Try.prog 7 #[.int .i64 (room : Int)] w fun e w' => ∃ pb, e = .returned (.tuple #[ptr pb, .int .i64 0]) ∧ pb = w.heap.size ∧ BagM w' pb room [] (fun b => b = pb) ∧ Ext w w' ∧ w'.heap.size = w.heap.size + 1 := by
  have a1 : ¬ (room : Int) < 1 := by omega
  have a2 : ¬ (100000 : Int) < (room : Int) := by omega
  have HE := Lib.hid (ext_alloc (ext_refl w) (.cells #[.slice none 0 0, .int .i64 (room : Int), .int .i64 0] 47))
  have HB := Lib.hid (heap_alloc_new w (.cells #[.slice none 0 0, .int .i64 (room : Int), .int .i64 0] 47))
  go_enter Try.func7, Try.ntmps7
  go_wp2
  go_ret2
  exact ⟨w.heap.size, rfl, rfl, ⟨[], [], .slice none 0 0, ⟨HB.out, rowE_nil _, rfl, fun i p m b hi => by simp at hi, .nil, .nil, .nil, rfl, (fun g hg => by cases hg), (fun x hx => by cases hx)⟩, List.Perm.refl _, (fun b hb => by cases hb)⟩, HE.out, by simp⟩
theorem in_any (pb : Nat) (room : Int) (bs : List Bk) (ps : List (Nat × Nat)) (v : Value) (F : Nat → Prop) (o c : Int) (w : World) (h : BagAt w pb room bs ps v F) (hm : bs.length ≤ 1000000) :
    Calls Try.prog 16 #[ptr pb, .agg #[.int .i64 o, .int .i64 c]] w fun e w' => ∃ v', e = .returned v' ∧ RdP w' v' (((ps.map (·.1)).take (max (idxB bs o) (idxB bs c))).drop (idxB bs o)) ∧ Ext w w' := by
  have hpl : (ps.map (·.1)).length = bs.length := by rw [List.length_map, h.len]
  have hi1 := idxB_le bs o
  have hi2 := idxB_le bs c
  have CO := Lib.hid (fun w' (hE : Ext w w') => find_any pb room bs ps v F o w' (bagAt_ext h hE) hm)
  have CC := Lib.hid (fun w' (hE : Ext w w') => find_any pb room bs ps v F c w' (bagAt_ext h hE) hm)
  obtain ⟨i, hi⟩ : ∃ i, i = idxB bs o := ⟨_, rfl⟩
  obtain ⟨j, hj⟩ : ∃ j, j = idxB bs c := ⟨_, rfl⟩
  obtain ⟨L, hL⟩ : ∃ L, L = ps.map (·.1) := ⟨_, rfl⟩
  rw [← hi] at CO hi1
  rw [← hj] at CC hi2
  rw [← hi, ← hj, ← hL]
  have hrow := h.row
  rw [← hL] at hrow hpl
  have HR := Lib.hid hrow
  have HW := Lib.hid (ext_alloc (ext_refl w) (.cells #[.int .i64 o, .int .i64 c] 35))
  obtain ⟨W, hWW⟩ : ∃ W, W = w.alloc (.cells #[.int .i64 o, .int .i64 c] 35) := ⟨_, rfl⟩
  have hb := (ext_block HW.out (block_lt h.blk)).trans h.blk
  have hx := heap_alloc_new w (.cells #[.int .i64 o, .int .i64 c] 35)
  rw [← hWW] at hb hx HW
  have x0 := block_cell hx 0
  have x1 := block_cell hx 1
  have lx := block_lt hx
  have q0 := block_cell hb 0
  have l0 := block_lt hb
  rcases row_is hrow with ⟨rfl, hnil⟩ | ⟨g, cap, cur, rfl, hg, g1, g2, g3, g4⟩
  · have hn0 : bs.length = 0 := by rw [← hpl, hnil]; rfl
    obtain rfl : i = 0 := by omega
    obtain rfl : j = 0 := by omega
    subst hnil
    clear h hb hx hrow hi hj hL
    go_enter Try.func16, Try.ntmps16
    go_wp2_with fail
    rw [← hWW]
    clear hWW
    refine (CO.out _ HW.out).mono ?_
    rintro e w1 ⟨rfl, rfl⟩
    go_wp2_with fail
    refine (CC.out _ HW.out).mono ?_
    rintro e w2 ⟨rfl, rfl⟩
    go_wp2
    refine bodyPost_ret (results_tmp rfl _ _ _) rfl ?_
    exact ⟨_, rfl, ⟨none, 0, rfl, fun h => absurd rfl h⟩, HW.out⟩
  · obtain ⟨n, hn⟩ : ∃ n, n = L.length := ⟨_, rfl⟩
    have HCELL := Lib.hid (show ∀ (k p : Nat), L[k]? = some p → W.cell? ⟨g, k, none⟩ = some (ptr p) from fun k p hk => row_ptr (rowE_ext HR.out HW.out) hk)
    have hgW : g < W.heap.size := ext_lt HW.out (block_lt hg)
    rw [← hn] at g1 hb q0 hpl
    have HN := Lib.hid hn
    have a1 : (i : Int) ≤ max (i : Int) (j : Int) := by omega
    have a2 : max (i : Int) (j : Int) ≤ (cap : Int) := by omega
    have a3 : (0 : Int) ≤ (i : Int) := by omega
    clear h hb hx hrow hi hj hL g2 g3 g4 hg hn
    go_enter Try.func16, Try.ntmps16
    go_wp2_with fail
    rw [← hWW]
    clear hWW
    refine (CO.out _ HW.out).mono ?_
    rintro e w1 ⟨rfl, rfl⟩
    go_wp2_with fail
    refine (CC.out _ HW.out).mono ?_
    rintro e w2 ⟨rfl, rfl⟩
    go_wp2
    all_goals
      refine bodyPost_ret (results_tmp rfl _ _ _) rfl ?_
      first
        | exact ⟨_, rfl, by rw [Nat.max_eq_left (by omega)]; exact rdP_nil _ _ _ _ _, HW.out⟩
        | exact ⟨_, rfl, by rw [Nat.max_eq_right (by omega)]; exact rdP_cut HCELL.out hgW (by have := HN.out; omega), HW.out⟩
        | skip
end Go.Proofs.Ytojgbphmkloicaa
