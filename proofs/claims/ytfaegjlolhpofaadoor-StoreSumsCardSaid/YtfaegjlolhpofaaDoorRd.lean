/- The document's store: Add, where nothing is added. -/
import Derived.Test.YtfaegjlolhpofaaDoorRc
namespace Go.Proofs.YtfaegjlolhpofaaDoor
open Go.RowKit Go.Sort
set_option maxHeartbeats 800000

theorem refadd_there (room : Int) (lv : Value) (L : List Key) (k : Key) (w : World) (hr : rowL w lv L) (hm : L.length < 1000000) (ha : 0 ≤ k.a) (hb : 0 ≤ k.b) (hc : 0 ≤ k.c) (hi : 0 ≤ idxL L k 0) :
    Calls Tryd.prog 20 #[RS room lv, K3 k.a k.b k.c] w fun e w' => e = .returned (.tuple #[RS room lv, .int .i64 5]) ∧ Ext w w' := by
  obtain ⟨A, n, c, rfl, hn⟩ : ∃ A n c, lv = .slice A n c ∧ n = L.length := by
    rcases rowL_cases hr with ⟨h, h2⟩ | ⟨_, _, _, h, _⟩
    · exact ⟨_, _, _, h, by rw [h2]; rfl⟩
    · exact ⟨_, _, _, h, rfl⟩
  subst hn
  have HR := Lib.hid hr
  clear hr
  have ha' : ¬ k.a < 0 := by omega
  have hb' : ¬ k.b < 0 := by omega
  have hc' : ¬ k.c < 0 := by omega
  go_enter Tryd.func20, Tryd.ntmps20
  go_wp2_with (go_at_call 26; refine (refind_row room _ L k _ (row_ext HR.out ?_) (by omega)).mono ?_; (exact ext_alloc (ext_alloc (ext_alloc (ext_refl _) _) _) _); rintro e w1 ⟨rfl, hE⟩; have HE := Lib.hid hE; clear hE; obtain ⟨g0, g1, g2⟩ := heap_three w (.cells #[.int .i64 room, .slice A L.length c] 47) (.cells #[.int .i64 k.a, .int .i64 k.b, .int .i64 k.c] 22) (.cells #[.int .i64 0, .slice none 0 0] 47); have G0 := Lib.hid ((ext_block HE.out (block_lt g0)).trans g0); have G1 := Lib.hid ((ext_block HE.out (block_lt g1)).trans g1); have G2 := Lib.hid ((ext_block HE.out (block_lt g2)).trans g2); clear g0 g1 g2; have q0 : w1.cell? ⟨w.heap.size, 0, none⟩ = some (.int .i64 room) := block_cell G0.out 0; have q1 : w1.cell? ⟨w.heap.size, 1, none⟩ = some (.slice A L.length c) := block_cell G0.out 1; have k0 : w1.cell? ⟨w.heap.size + 1, 0, none⟩ = some (.int .i64 k.a) := block_cell G1.out 0; have k1 : w1.cell? ⟨w.heap.size + 1, 1, none⟩ = some (.int .i64 k.b) := block_cell G1.out 1; have k2 : w1.cell? ⟨w.heap.size + 1, 2, none⟩ = some (.int .i64 k.c) := block_cell G1.out 2; have m0 := block_lt G0.out; have m1 := block_lt G1.out; have m2 := block_lt G2.out; have z2 := block_frozen G2.out 0; have z3 := block_frozen G2.out 1; have p0 : w1.cell? ⟨w.heap.size + 2, 0, none⟩ = some (.int .i64 0) := block_cell G2.out 0; have p1 : w1.cell? ⟨w.heap.size + 2, 1, none⟩ = some (.slice none 0 0) := block_cell G2.out 1; have z0 := block_frozen G0.out 1)
  have hs1 := block_lt G2.out
  have HE0 := ext_trans (ext_alloc (ext_alloc (ext_alloc (ext_refl w) (.cells #[.int .i64 room, .slice A L.length c] 47)) (.cells #[.int .i64 k.a, .int .i64 k.b, .int .i64 k.c] 22)) (.cells #[.int .i64 0, .slice none 0 0] 47)) HE.out
  refine bodyPost_ret (v := .tuple #[RS room (.slice A L.length c), .int .i64 5]) (by rw [results_cell_tmp rfl]; go_simp) rfl ?_
  exact ⟨rfl, ext_set (ext_set HE0 (by simp; omega) _) (by simp; omega) _⟩

theorem refadd_full (room : Int) (lv : Value) (L : List Key) (k : Key) (w : World) (hr : rowL w lv L) (hm : L.length < 1000000) (ha : 0 ≤ k.a) (hb : 0 ≤ k.b) (hc : 0 ≤ k.c) (hi : idxL L k 0 < 0) (hroom : room ≤ (L.length : Int)) :
    Calls Tryd.prog 20 #[RS room lv, K3 k.a k.b k.c] w fun e w' => e = .returned (.tuple #[RS room lv, .int .i64 6]) ∧ Ext w w' := by
  obtain ⟨A, n, c, rfl, hn⟩ : ∃ A n c, lv = .slice A n c ∧ n = L.length := by
    rcases rowL_cases hr with ⟨h, h2⟩ | ⟨_, _, _, h, _⟩
    · exact ⟨_, _, _, h, by rw [h2]; rfl⟩
    · exact ⟨_, _, _, h, rfl⟩
  subst hn
  have HR := Lib.hid hr
  clear hr
  have ha' : ¬ k.a < 0 := by omega
  have hb' : ¬ k.b < 0 := by omega
  have hc' : ¬ k.c < 0 := by omega
  have hi' : ¬ 0 ≤ idxL L k 0 := by omega
  go_enter Tryd.func20, Tryd.ntmps20
  go_wp2_with (go_at_call 26; refine (refind_row room _ L k _ (row_ext HR.out ?_) (by omega)).mono ?_; (exact ext_alloc (ext_alloc (ext_alloc (ext_refl _) _) _) _); rintro e w1 ⟨rfl, hE⟩; have HE := Lib.hid hE; clear hE; obtain ⟨g0, g1, g2⟩ := heap_three w (.cells #[.int .i64 room, .slice A L.length c] 47) (.cells #[.int .i64 k.a, .int .i64 k.b, .int .i64 k.c] 22) (.cells #[.int .i64 0, .slice none 0 0] 47); have G0 := Lib.hid ((ext_block HE.out (block_lt g0)).trans g0); have G1 := Lib.hid ((ext_block HE.out (block_lt g1)).trans g1); have G2 := Lib.hid ((ext_block HE.out (block_lt g2)).trans g2); clear g0 g1 g2; have q0 : w1.cell? ⟨w.heap.size, 0, none⟩ = some (.int .i64 room) := block_cell G0.out 0; have q1 : w1.cell? ⟨w.heap.size, 1, none⟩ = some (.slice A L.length c) := block_cell G0.out 1; have k0 : w1.cell? ⟨w.heap.size + 1, 0, none⟩ = some (.int .i64 k.a) := block_cell G1.out 0; have k1 : w1.cell? ⟨w.heap.size + 1, 1, none⟩ = some (.int .i64 k.b) := block_cell G1.out 1; have k2 : w1.cell? ⟨w.heap.size + 1, 2, none⟩ = some (.int .i64 k.c) := block_cell G1.out 2; have m0 := block_lt G0.out; have m1 := block_lt G1.out; have m2 := block_lt G2.out; have z2 := block_frozen G2.out 0; have z3 := block_frozen G2.out 1; have p0 : w1.cell? ⟨w.heap.size + 2, 0, none⟩ = some (.int .i64 0) := block_cell G2.out 0; have p1 : w1.cell? ⟨w.heap.size + 2, 1, none⟩ = some (.slice none 0 0) := block_cell G2.out 1; have z0 := block_frozen G0.out 1)
  have hs1 := block_lt G2.out
  have HE0 := ext_trans (ext_alloc (ext_alloc (ext_alloc (ext_refl w) (.cells #[.int .i64 room, .slice A L.length c] 47)) (.cells #[.int .i64 k.a, .int .i64 k.b, .int .i64 k.c] 22)) (.cells #[.int .i64 0, .slice none 0 0] 47)) HE.out
  refine bodyPost_ret (v := .tuple #[RS room (.slice A L.length c), .int .i64 6]) (by rw [results_cell_tmp rfl]; go_simp) rfl ?_
  exact ⟨rfl, ext_set (ext_set HE0 (by simp; omega) _) (by simp; omega) _⟩

end Go.Proofs.YtfaegjlolhpofaaDoor
