/- The store in memory; find, Has, Len. -/
import Derived.Test.YtfaegjlolhpofaaDoorWd
import Derived.Test.YtfaegjlolhpofaaDoorWg
namespace Go.Proofs.YtfaegjlolhpofaaDoor
open Go.RowKit Go.Sort
set_option maxHeartbeats 800000

/-- where a key is, or would be -/
def lb (o : Int) (ks : List Key) (t : Key) : Nat := (ks.takeWhile (fun k => decide (Key.cmp o k t < 0))).length
theorem takeWhile_at {α : Type} (p : α → Bool) (d : α) : ∀ (l : List α) (i : Nat), i ≤ l.length → (∀ k, k < i → p (l.getD k d) = true) → (i < l.length → p (l.getD i d) = false) → (l.takeWhile p).length = i
  | [], i, h, _, _ => by simp at h; simp [h]
  | x :: l, i, h, h1, h2 => by
    cases i with
    | zero =>
      have := h2 (by simp)
      simp at this
      simp [this]
    | succ i =>
      have := h1 0 (by omega)
      simp at this
      simp only [List.takeWhile_cons, this, if_true, List.length_cons]
      rw [takeWhile_at p d l i (by simpa using h) (fun k hk => by simpa using h1 (k + 1) (by omega)) (fun hi => by simpa using h2 (by simpa using hi))]
theorem lb_of_search {o : Int} {ks : List Key} {t : Key} {i : Nat} (h : SearchAt o ks t i) : lb o ks t = i := by
  refine takeWhile_at _ ⟨0, 0, 0⟩ ks i h.1 (fun k hk => by rw [decide_eq_true_eq]; exact h.2.1 k hk) (fun hi => ?_)
  have := h.2.2 i (Nat.le_refl _) hi
  simp only [decide_eq_false_iff_not]
  unfold kat at this
  omega

theorem bsearch_nil (o : Int) (ob : Nat) (t : Key) (w : World) :
    Calls Tryd.prog 38 #[.slice none 0 0, K3 t.a t.b t.c, .func (.func 39) #[] #[.pointer (some ⟨ob, 0, none⟩)]] w (SearchPost o [] t w) := by
  go_enter Tryd.func38, Tryd.ntmps38
  go_wp2
  go_loopw [9, 10] (fun i j wr => i = .int .i64 0 ∧ j = .int .i64 0 ∧ Ext w wr) (fun i j _ => 0)
  case atStart => exact ⟨rfl, rfl, ext_alloc (ext_refl _) _⟩
  case round =>
    obtain ⟨rfl, rfl, hE⟩ := hrel
    have HE := Lib.hid hE
    clear hE
    go_wp2
    refine wp_region_free 16 [0, 1, 2, 3, 4, 5, 6, 7, 8, 9, 10, 11, 12, 13, 14, 15] [] (by kernel_rfl) (by kernel_rfl) ?_
    repeat (refine wpLoose_step rfl (fun K hK => ?_); (try simp only [Oper.quietAt, Oper.quietUpon]); go_simp; (refine hK _ ?_; clear hK K))
    refine wpLoose_nil (wpFresh_nil (fun w3 hE3 _ => ?_))
    have HE3 := Lib.hid hE3
    clear hE3
    simp only [List.drop_succ_cons, List.drop_zero]
    refine wpList_nil ?_
    go_wp2
    go_ret2
    exact ⟨0, ⟨by simp, fun k h => by omega, fun k h1 h2 => by simp at h2⟩, rfl, ext_trans HE.out HE3.out⟩

theorem bsearch_row (o : Int) (ob : Nat) (v : Value) (ks : List Key) (t : Key) (w : World) (hL : Laid w) (ho : w.cell? ⟨ob, 0, none⟩ = some (.int .i64 o)) (hrow : rowOf w v ks) (hm : ks.length ≤ 1000000)
    (hmono : ∀ i j, i ≤ j → j < ks.length → Key.cmp o (kat ks j) t < 0 → Key.cmp o (kat ks i) t < 0) :
    Calls Tryd.prog 38 #[v, K3 t.a t.b t.c, .func (.func 39) #[] #[.pointer (some ⟨ob, 0, none⟩)]] w fun e w' => e = .returned (.tuple #[.int .i64 (lb o ks t), .bool (foundB o ks t (lb o ks t))]) ∧ Ext w w' := by
  have fin : ∀ e w', SearchPost o ks t w e w' → e = .returned (.tuple #[.int .i64 (lb o ks t), .bool (foundB o ks t (lb o ks t))]) ∧ Ext w w' := by
    rintro e w' ⟨i, hi, rfl, hE⟩
    rw [lb_of_search hi]
    exact ⟨rfl, hE⟩
  rcases row_cases hrow with ⟨rfl, rfl⟩ | ⟨g, cap, cur, rfl, hg, _⟩
  · exact (bsearch_nil o ob t w).mono fin
  · exact (bsearch_any o g ob _ cap ks t w hL ho (row_keysIn hrow) (block_lt hg) rfl hm hmono).mono fin

structure StoreAt (w : World) (s : Nat) (v : Nat → Value) (r : Nat → List Key) (room : Int) : Prop where
  blk : w.heap[s]? = some (.cells #[v 0, v 1, v 2, .int .i64 room] 65 (0, 0))
  row : ∀ i, i < 3 → rowOf w (v i) (r i)
  off : ∀ i, i < 3 → (v i).ownBlock ≠ some s
  apart : ∀ i j, i < 3 → j < 3 → i ≠ j → ∀ g, (v i).ownBlock = some g → (v j).ownBlock ≠ some g
  high : 1 < s ∧ ∀ i, i < 3 → ∀ g, (v i).ownBlock = some g → 1 < g

theorem store_ext {w w' : World} {s : Nat} {v : Nat → Value} {r : Nat → List Key} {room : Int} (h : StoreAt w s v r room) (hE : Ext w w') : StoreAt w' s v r room :=
  ⟨(ext_block hE (block_lt h.blk)).trans h.blk, fun i hi => row_ext (h.row i hi) hE, h.off, h.apart, h.high⟩
theorem store_cell {w : World} {s : Nat} {v : Nat → Value} {r : Nat → List Key} {room : Int} (h : StoreAt w s v r room) (i : Nat) (hi : i < 3) : w.cell? ⟨s, i, none⟩ = some (v i) := by
  rw [block_cell h.blk]
  obtain rfl | rfl | rfl : i = 0 ∨ i = 1 ∨ i = 2 := by omega
  all_goals rfl
theorem store_room {w : World} {s : Nat} {v : Nat → Value} {r : Nat → List Key} {room : Int} (h : StoreAt w s v r room) : w.cell? ⟨s, 3, none⟩ = some (.int .i64 room) := by
  rw [block_cell h.blk]; rfl

/-- a row that is searched: it rises -/
def Rising (o : Int) (ks : List Key) : Prop := ∀ t i j, i ≤ j → j < ks.length → Key.cmp o (kat ks j) t < 0 → Key.cmp o (kat ks i) t < 0

theorem find_any (s i : Nat) (o : Int) (hoi : o = (i : Int)) (v : Nat → Value) (r : Nat → List Key) (room : Int) (t : Key) (w : World) (hL : Laid w) (hS : StoreAt w s v r room) (hi : i < 3) (hm : (r i).length ≤ 1000000) (hmono : Rising o (r i)) :
    Calls Tryd.prog 30 #[.pointer (some ⟨s, 0, none⟩), .int .i64 o, K3 t.a t.b t.c] w fun e w' => e = .returned (.tuple #[.int .i64 (lb o (r i) t), .bool (foundB o (r i) t (lb o (r i) t))]) ∧ Ext w w' := by
  subst hoi
  have HL := Lib.hid hL
  have HS := Lib.hid hS
  have HM := Lib.hid hmono
  have HLen := Lib.hid hm
  clear hL hS hmono hm
  have hii : (i : Int) < 3 := by omega
  have hi0 : (0 : Int) ≤ (i : Int) := by omega
  go_enter Tryd.func30, Tryd.ntmps30
  go_wp2
  refine wp_gen (fun W hW => ?_)
  have t0 : W.cell? ⟨w.heap.size, 0, none⟩ = some (.int .i64 i) := by rw [hW]; go_simp
  have t1 : W.cell? ⟨w.heap.size + 1, 0, none⟩ = some (.int .i64 t.a) := by rw [hW]; go_simp
  have t2 : W.cell? ⟨w.heap.size + 1, 1, none⟩ = some (.int .i64 t.b) := by rw [hW]; go_simp
  have t3 : W.cell? ⟨w.heap.size + 1, 2, none⟩ = some (.int .i64 t.c) := by rw [hW]; go_simp
  have HE := Lib.hid (show Ext w W by rw [hW]; exact ext_alloc (ext_alloc (ext_refl _) _) _)
  have l0 := World.block_lt_of_cell? _ _ t0
  have l1 := World.block_lt_of_cell? _ _ t1
  clear hW
  have HS2 := Lib.hid (store_ext HS.out HE.out)
  have s0 := store_cell HS2.out i hi
  have ls := World.block_lt_of_cell? _ _ s0
  have T0 := Lib.hid t0
  have hgc := cell_grown
  refine wp_region_free 13 [0, 1, 2, 3, 4, 5, 6, 7, 8, 9, 10, 11, 12] [] (by kernel_rfl) (by kernel_rfl) ?_
  repeat (refine wpLoose_step rfl (fun K hK => ?_); (try simp only [Oper.quietAt, Oper.quietUpon]); go_simp; first | (refine hK _ ?_; clear hK K) | (apply Exists.intro; refine ⟨fun p => ?_, hK _ ?_⟩; (go_at_call 38; refine bsearch_row i _ _ (r i) t _ ?_ ?_ ?_ HLen.out (HM.out t)); (exact laid_ext HL.out (ext_grow HE.out _ _)); (exact (cell_grown _ _ _ _ _ l0).trans T0.out); (exact row_ext (HS2.out.row i hi) (ext_grow (ext_refl _) _ _)); clear hK K))
  refine wpLoose_nil (wpFresh_nil (fun w3 hE3 _ => ?_))
  have HE3 := Lib.hid hE3
  clear hE3
  simp only [List.drop_succ_cons, List.drop_zero]
  refine wpList_nil ?_
  go_wp2
  go_ret2
  exact ⟨rfl, ext_trans HE.out HE3.out⟩
end Go.Proofs.YtfaegjlolhpofaaDoor
