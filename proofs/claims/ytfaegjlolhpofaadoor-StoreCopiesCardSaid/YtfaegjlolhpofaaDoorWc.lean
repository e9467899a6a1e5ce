import Derived.Test.YtfaegjlolhpofaaDoorWa
import Derived.Test.YtfaegjlolhpofaaDoorWb
import Derived.Test.YtfaegjlolhpofaaDoorFree
import Derived.BigQuiet
namespace Go.Proofs.YtfaegjlolhpofaaDoor
open Go.RowKit Go.Sort
set_option maxHeartbeats 800000

def Key.f (k : Key) : Nat → Int | 0 => k.a | 1 => k.b | _ => k.c
def Key.cmp (o : Int) (x y : Key) : Int := lex3 (x.turn o).f (y.turn o).f

theorem laid_ext {w w1 : World} (h : Laid w) (hb : Ext w w1) : Laid w1 := by
  obtain ⟨sz, c0, c1, c2, c3, c4, c5, c6, c7, p0, p1, p2, p3, p4, p5, p6, p7, p8⟩ := h
  have hc := ext_cell hb
  exact ⟨ext_lt hb sz, (hc _ _ (by omega)).trans c0, (hc _ _ (by omega)).trans c1, (hc _ _ (by omega)).trans c2, (hc _ _ (by omega)).trans c3, (hc _ _ (by omega)).trans c4, (hc _ _ (by omega)).trans c5, (hc _ _ (by omega)).trans c6, (hc _ _ (by omega)).trans c7,
    (hc _ _ (by omega)).trans p0, (hc _ _ (by omega)).trans p1, (hc _ _ (by omega)).trans p2, (hc _ _ (by omega)).trans p3, (hc _ _ (by omega)).trans p4, (hc _ _ (by omega)).trans p5, (hc _ _ (by omega)).trans p6, (hc _ _ (by omega)).trans p7, (hc _ _ (by omega)).trans p8⟩

theorem turned_ext (o : Int) (k : Key) (w : World) (hL : Laid w) :
    Calls Tryd.prog 36 #[.int .i64 o, K3 k.a k.b k.c] w fun e w' => e = .returned (K3 (k.turn o).a (k.turn o).b (k.turn o).c) ∧ Ext w w' :=
  (turned_any o k w hL).mono fun _ _ ⟨h, e⟩ => ⟨h, by subst e; exact ext_drew (ext_alloc (ext_alloc (ext_alloc (ext_refl _) _) _) _)⟩

theorem compare_any (o : Int) (x y : Key) (w : World) (hL : Laid w) :
    Calls Tryd.prog 29 #[.int .i64 o, K3 x.a x.b x.c, K3 y.a y.b y.c] w fun e w' => e = .returned (.int .i64 (Key.cmp o x y)) ∧ Ext w w' := by
  have HL := Lib.hid hL
  have hgc := cell_grown
  clear hL
  go_enter Tryd.func29, Tryd.ntmps29
  go_wp2
  refine wp_region_free 8 [0, 1, 2, 3, 4, 5] [6, 7] (by kernel_rfl) (by kernel_rfl) ?_
  repeat (refine wpLoose_step rfl (fun K hK => ?_); (try simp only [Oper.quietAt, Oper.quietUpon]); go_simp; first | (refine hK _ ?_; clear hK K) | (apply Exists.intro; refine ⟨fun p => turned_ext _ _ _ ?_, hK _ ?_⟩; (exact laid_ext HL.out (by (repeat (first | exact ext_refl _ | refine ext_drew ?_ | refine ext_alloc ?_ _ | refine ext_grow ?_ _ _)))); clear hK K))
  refine wpLoose_nil ?_
  refine wpFresh_step (fun p => .pointer (some ⟨p, 0, none⟩)) (.cells #[.int .i64 0, .int .i64 0, .int .i64 0] 22) rfl rfl (fun _ => by go_simp) (fun p1 hp1 hn1 => ?_)
  refine wpFresh_step (fun p => .pointer (some ⟨p, 0, none⟩)) (.cells #[.int .i64 0, .int .i64 0, .int .i64 0] 22) rfl rfl (fun _ => by go_simp) (fun p2 hp2 hn2 => ?_)
  refine wpFresh_nil (fun w2 hE hs => ?_)
  simp only [List.drop_succ_cons, List.drop_zero, Act.put, List.getElem_toArray, List.getElem_cons_succ, List.getElem_cons_zero, List.setIfInBounds_toArray, List.set_cons_succ, List.set_cons_zero]
  obtain ⟨⟨_, hs1⟩, hs2⟩ := hs
  have a0 : w2.cell? ⟨p1, 0, none⟩ = some (.int .i64 0) := block_cell hs1 0
  have a1 : w2.cell? ⟨p1, 1, none⟩ = some (.int .i64 0) := block_cell hs1 1
  have a2 : w2.cell? ⟨p1, 2, none⟩ = some (.int .i64 0) := block_cell hs1 2
  have b0 : w2.cell? ⟨p2, 0, none⟩ = some (.int .i64 0) := block_cell hs2 0
  have b1 : w2.cell? ⟨p2, 1, none⟩ = some (.int .i64 0) := block_cell hs2 1
  have b2 : w2.cell? ⟨p2, 2, none⟩ = some (.int .i64 0) := block_cell hs2 2
  have fa := block_frozen hs1
  have fb := block_frozen hs2
  have hne : p1 ≠ p2 := fun h => hn2 (by simp [h])
  have hne' : p2 ≠ p1 := fun h => hne h.symm
  have HE := Lib.hid hE
  have HP1 := Lib.hid hp1
  have HP2 := Lib.hid hp2
  clear hE hp1 hp2 hs1 hs2 hn1 hn2
  go_wp2
  refine wp_gen (fun W hW => ?_)
  have hx : ∀ k, k < 3 → W.cell? ⟨p1, k, none⟩ = some (.int .i64 ((x.turn o).f k)) := by
    intro k hk
    obtain rfl | rfl | rfl : k = 0 ∨ k = 1 ∨ k = 2 := by omega
    all_goals (rw [hW]; go_simp; try rfl)
  have hy : ∀ k, k < 3 → W.cell? ⟨p2, k, none⟩ = some (.int .i64 ((y.turn o).f k)) := by
    intro k hk
    obtain rfl | rfl | rfl : k = 0 ∨ k = 1 ∨ k = 2 := by omega
    all_goals (rw [hW]; go_simp; try rfl)
  have HEW := Lib.hid (show Ext w W by
    rw [hW]
    have h0 : Ext w w2 := ext_trans (ext_alloc (ext_alloc (ext_refl _) _) _) HE.out
    have h1 := HP1.out
    have h2 := HP2.out
    simp at h1 h2
    exact ext_set (ext_set (ext_set (ext_set (ext_set (ext_set h0 (by simp; omega) _) (by simp; omega) _) (by simp; omega) _) (by simp; omega) _) (by simp; omega) _) (by simp; omega) _)
  have l1 : p1 < W.heap.size := World.block_lt_of_cell? _ _ (hx 0 (by omega))
  have l2 : p2 < W.heap.size := World.block_lt_of_cell? _ _ (hy 0 (by omega))
  have HX := Lib.hid hx
  have HY := Lib.hid hy
  clear hW a0 a1 a2 b0 b1 b2 fa fb hx hy
  refine wp_region_free 4 [0, 1, 2, 3] [] (by kernel_rfl) (by kernel_rfl) ?_
  repeat (refine wpLoose_step rfl (fun K hK => ?_); (try simp only [Oper.quietAt, Oper.quietUpon]); go_simp; first | (refine hK _ ?_; clear hK K) | (apply Exists.intro; refine ⟨fun p => (compare3_any _ _ (x.turn o).f (y.turn o).f _ ?_ ?_).mono (fun _ _ h => ⟨h.1, by rw [← h.2]; exact ext_refl _⟩), hK _ ?_⟩; (exact fun k hk => (cell_grown _ _ _ _ _ l1).trans (HX.out k hk)); (exact fun k hk => (cell_grown _ _ _ _ _ l2).trans (HY.out k hk)); clear hK K))
  refine wpLoose_nil (wpFresh_nil (fun w3 hE3 _ => ?_))
  have HE3 := Lib.hid hE3
  clear hE3
  simp only [List.drop_succ_cons, List.drop_zero]
  refine wpList_nil ?_
  go_wp2
  go_ret
  exact ⟨rfl, ext_trans HEW.out HE3.out⟩
end Go.Proofs.YtfaegjlolhpofaaDoor
