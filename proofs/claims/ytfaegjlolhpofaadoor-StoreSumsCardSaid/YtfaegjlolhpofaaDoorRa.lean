/- The document's store: Find. -/
import Derived.Test.YtfaegjlolhpofaaDoorEq
namespace Go.Proofs.YtfaegjlolhpofaaDoor
open Go.RowKit Go.Sort
set_option maxHeartbeats 800000

/-- the document's rows: of arrays -/
def rowL (w : World) (v : Value) (ks : List Key) : Prop := w.ownsRow 0 22 3 v ks.length (flat ks)
theorem rowL_cases {w : World} {v : Value} {ks : List Key} (h : rowL w v ks) : (v = .slice none 0 0 ∧ ks = []) ∨ ∃ g cap cur, v = .slice (some ⟨g, 0, none⟩) ks.length cap ∧ w.heap[g]? = some (.cells cur 22 (0, 0)) ∧ ks.length ≤ cap ∧ cap ≤ maxLen ∧ cur.size = cap * 3 ∧ cur.toList.take (ks.length * 3) = flat ks := by
  rcases h.2 with ⟨h1, h2⟩ | ⟨g, cap, cur, h1, _, h2, h3, h4, h5, h6⟩
  · exact .inl ⟨h1, List.eq_nil_of_length_eq_zero h2⟩
  · exact .inr ⟨g, cap, cur, h1, h2, h3, h4, h5, h6⟩
theorem rowL_keysIn {w : World} {g n cap : Nat} {ks : List Key} (h : rowL w (.slice (some ⟨g, 0, none⟩) n cap) ks) : KeysIn w g ks := by
  rcases rowL_cases h with ⟨h1, _⟩ | ⟨g', cap', cur, h1, hg, _, _, _, h6⟩
  · cases h1
  · simp only [Value.slice.injEq, Option.some.injEq, Addr.mk.injEq, and_true] at h1
    obtain ⟨rfl, -, -⟩ := h1
    refine keysIn_of_cells fun j hj => ?_
    rw [block_cell hg, ← h6, List.getElem?_take, if_pos hj]
    simp
theorem rowL_block {w : World} {g n cap : Nat} {ks : List Key} (h : rowL w (.slice (some ⟨g, 0, none⟩) n cap) ks) : g < w.heap.size := (World.ownsRow.lt h g rfl).2

/-- where a key stands; -1: nowhere -/
def idxL : List Key → Key → Int → Int
  | [], _, _ => -1
  | x :: l, k, n => if x = k then n else idxL l k (n + 1)
theorem idxL_drop (L : List Key) (k : Key) (j : Nat) (h : ∀ i, i < j → kat L i ≠ k) (hj : j ≤ L.length) (n : Int) : idxL L k n = idxL (L.drop j) k (n + j) := by
  induction j generalizing L n with
  | zero => simp
  | succ j ih =>
    cases L with
    | nil => simp at hj
    | cons x l =>
      have h0 : x ≠ k := by simpa [kat] using h 0 (by omega)
      rw [List.drop_succ_cons, idxL, if_neg h0, ih l (fun i hi => by simpa [kat] using h (i + 1) (by omega)) (by simpa using hj)]
      congr 1
      omega
theorem drop_kat {L : List Key} {j : Nat} (h : j < L.length) : L.drop j = kat L j :: L.drop (j + 1) := by
  induction L generalizing j with
  | nil => simp at h
  | cons x l ih =>
    cases j with
    | zero => simp [kat]
    | succ j => rw [List.drop_succ_cons, ih (by simpa using h)]; simp [kat]
abbrev RS (room : Int) (lv : Value) : Value := .agg #[.int .i64 room, lv]

theorem refind_any (room : Int) (g cap : Nat) (L : List Key) (k : Key) (w : World) (hr : rowL w (.slice (some ⟨g, 0, none⟩) L.length cap) L) (hm : L.length ≤ 1000000) :
    Calls Tryd.prog 26 #[RS room (.slice (some ⟨g, 0, none⟩) L.length cap), K3 k.a k.b k.c] w fun e w' => e = .returned (.int .i64 (idxL L k 0)) ∧ Ext w w' := by
  have HK := Lib.hid (rowL_keysIn hr)
  have heq := eq22
  have hg := rowL_block hr
  clear hr
  go_enter Tryd.func26, Tryd.ntmps26
  go_wp2
  refine wp_gen (fun W hW => ?_)
  have t0 : W.cell? ⟨w.heap.size, 1, none⟩ = some (.slice (some ⟨g, 0, none⟩) L.length cap) := by rw [hW]; go_simp
  have t1 : W.cell? ⟨w.heap.size + 1, 0, none⟩ = some (.int .i64 k.a) := by rw [hW]; go_simp
  have t2 : W.cell? ⟨w.heap.size + 1, 1, none⟩ = some (.int .i64 k.b) := by rw [hW]; go_simp
  have t3 : W.cell? ⟨w.heap.size + 1, 2, none⟩ = some (.int .i64 k.c) := by rw [hW]; go_simp
  have HE := Lib.hid (show Ext w W by rw [hW]; exact ext_alloc (ext_alloc (ext_refl _) _) _)
  have l0 := World.block_lt_of_cell? _ _ t0
  have l1 := World.block_lt_of_cell? _ _ t1
  have lg : g < W.heap.size := ext_lt HE.out hg
  have hgc := cell_grown
  clear hW
  have T0 := Lib.hid t0
  have T1 := Lib.hid t1
  have T2 := Lib.hid t2
  have T3 := Lib.hid t3
  clear t0 t1 t2 t3
  go_loopw [9] (fun x wr => ∃ j : Nat, j ≤ L.length ∧ x = .int .i64 j ∧ (∀ i, i < j → kat L i ≠ k) ∧ Ext W wr) (fun x _ => L.length - (intOf x).toNat)
  case atStart => exact ⟨0, by omega, rfl, fun i h => by omega, ext_refl _⟩
  case round =>
    obtain ⟨j, hj, rfl, hne, hEr⟩ := hrel
    have HNE := Lib.hid hne
    have HEr := Lib.hid hEr
    clear hne hEr
    have t0 := (ext_cell HEr.out _ _ l0).trans T0.out
    have t1 := (ext_cell HEr.out _ _ l1).trans T1.out
    have t2 := (ext_cell HEr.out _ _ l1).trans T2.out
    have t3 := (ext_cell HEr.out _ _ l1).trans T3.out
    have m0 := ext_lt HEr.out l0
    have m1 := ext_lt HEr.out l1
    have mg := ext_lt HEr.out lg
    by_cases hlt : j < L.length
    · have hji : (j : Int) < (L.length : Int) := by omega
      have hj0 : (0 : Int) ≤ (j : Int) := by omega
      obtain ⟨x, hx⟩ : ∃ x, kat L j = x := ⟨_, rfl⟩
      obtain ⟨q0, q1, q2⟩ := HK.out j hlt
      replace q0 := (ext_cell (ext_trans HE.out HEr.out) _ _ hg).trans q0
      replace q1 := (ext_cell (ext_trans HE.out HEr.out) _ _ hg).trans q1
      replace q2 := (ext_cell (ext_trans HE.out HEr.out) _ _ hg).trans q2
      rw [hx] at q0 q1 q2
      have HX := Lib.hid hx
      clear hx
      by_cases he : x = k
      · subst he
        have hd : decide (x = x) = true := by simp
        go_wp2
        refine wp_region_free 7 [0, 1, 2, 3, 4, 5, 6] [] (by kernel_rfl) (by kernel_rfl) ?_
        repeat (refine wpLoose_step rfl (fun K hK => ?_); (try simp only [Oper.quietAt, Oper.quietUpon]); go_simp; (refine hK _ ?_; clear hK K))
        refine wpLoose_nil (wpFresh_nil (fun w3 hE3 _ => ?_))
        have HE3 := Lib.hid hE3
        clear hE3
        simp only [List.drop_succ_cons, List.drop_zero]
        refine wpList_nil ?_
        go_wp2
        go_ret
        exact ⟨by rw [idxL_drop L x j HNE.out hj, drop_kat hlt, HX.out, idxL, if_pos rfl, Int.zero_add]; rfl, ext_trans HE.out (ext_trans HEr.out HE3.out)⟩
      · have hd : decide (x = k) = false := by simp [he]
        go_wp2
        refine wp_region_free 7 [0, 1, 2, 3, 4, 5, 6] [] (by kernel_rfl) (by kernel_rfl) ?_
        repeat (refine wpLoose_step rfl (fun K hK => ?_); (try simp only [Oper.quietAt, Oper.quietUpon]); go_simp; (refine hK _ ?_; clear hK K))
        refine wpLoose_nil (wpFresh_nil (fun w3 hE3 _ => ?_))
        have HE3 := Lib.hid hE3
        clear hE3
        simp only [List.drop_succ_cons, List.drop_zero]
        refine wpList_nil ?_
        go_wp2
        go_roundw
        case rel => exact ⟨j + 1, by omega, by go_num, fun i hi => by
          by_cases h : i < j
          · exact HNE.out i h
          · obtain rfl : i = j := by omega
            rw [HX.out]; exact he, ext_trans HEr.out HE3.out⟩
        case measure => simp [intOf]; omega
    · obtain rfl : j = L.length := by omega
      go_wp2
      go_ret
      exact ⟨by rw [idxL_drop L k L.length HNE.out (Nat.le_refl _), List.drop_eq_nil_of_le (Nat.le_refl _)]; rfl, ext_trans HE.out HEr.out⟩

theorem refind_nil (room : Int) (k : Key) (w : World) : Calls Tryd.prog 26 #[RS room (.slice none 0 0), K3 k.a k.b k.c] w fun e w' => e = .returned (.int .i64 (-1)) ∧ Ext w w' := by
  go_enter Tryd.func26, Tryd.ntmps26
  go_wp2
  go_loop [9] (fun x => x = .int .i64 0) (fun x => 0)
  case atStart => rfl
  case round =>
    obtain rfl := hrel
    go_wp2
    go_ret
    exact ⟨rfl, ext_alloc (ext_alloc (ext_refl _) _) _⟩

theorem refind_row (room : Int) (lv : Value) (L : List Key) (k : Key) (w : World) (hr : rowL w lv L) (hm : L.length ≤ 1000000) :
    Calls Tryd.prog 26 #[RS room lv, K3 k.a k.b k.c] w fun e w' => e = .returned (.int .i64 (idxL L k 0)) ∧ Ext w w' := by
  rcases rowL_cases hr with ⟨rfl, rfl⟩ | ⟨g, cap, cur, rfl, _⟩
  · exact refind_nil room k w
  · exact refind_any room g cap L k w hr hm
end Go.Proofs.YtfaegjlolhpofaaDoor
