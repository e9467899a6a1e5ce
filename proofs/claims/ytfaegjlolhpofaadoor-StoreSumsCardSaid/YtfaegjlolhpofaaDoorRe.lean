/- The document's store: Remove. -/
import Derived.Test.YtfaegjlolhpofaaDoorRd
namespace Go.Proofs.YtfaegjlolhpofaaDoor
open Go.RowKit Go.Sort
set_option maxHeartbeats 800000

theorem refremove_none (room : Int) (lv : Value) (L : List Key) (k : Key) (w : World) (hr : rowL w lv L) (hm : L.length < 1000000) (hi : idxL L k 0 < 0) :
    Calls Tryd.prog 23 #[RS room lv, K3 k.a k.b k.c] w fun e w' => e = .returned (.tuple #[RS room lv, .int .i64 4]) ∧ Ext w w' := by
  obtain ⟨A, n, c, rfl, hn⟩ : ∃ A n c, lv = .slice A n c ∧ n = L.length := by
    rcases rowL_cases hr with ⟨h, h2⟩ | ⟨_, _, _, h, _⟩
    · exact ⟨_, _, _, h, by rw [h2]; rfl⟩
    · exact ⟨_, _, _, h, rfl⟩
  subst hn
  have HR := Lib.hid hr
  clear hr
  go_enter Tryd.func23, Tryd.ntmps23
  go_wp2_with (go_at_call 26; refine (refind_row room _ L k _ (row_ext HR.out ?_) (by omega)).mono ?_; (exact ext_alloc (ext_alloc (ext_alloc (ext_refl _) _) _) _); rintro e w1 ⟨rfl, hE⟩; have HE := Lib.hid hE; clear hE; obtain ⟨g0, g1, g2⟩ := heap_three w (.cells #[.int .i64 room, .slice A L.length c] 47) (.cells #[.int .i64 k.a, .int .i64 k.b, .int .i64 k.c] 22) (.cells #[.int .i64 0, .slice none 0 0] 47); have G0 := Lib.hid ((ext_block HE.out (block_lt g0)).trans g0); have G1 := Lib.hid ((ext_block HE.out (block_lt g1)).trans g1); have G2 := Lib.hid ((ext_block HE.out (block_lt g2)).trans g2); clear g0 g1 g2; have q0 : w1.cell? ⟨w.heap.size, 0, none⟩ = some (.int .i64 room) := block_cell G0.out 0; have q1 : w1.cell? ⟨w.heap.size, 1, none⟩ = some (.slice A L.length c) := block_cell G0.out 1; have m0 := block_lt G0.out; have m1 := block_lt G1.out; have m2 := block_lt G2.out; have z2 := block_frozen G2.out 0; have z3 := block_frozen G2.out 1; have p0 : w1.cell? ⟨w.heap.size + 2, 0, none⟩ = some (.int .i64 0) := block_cell G2.out 0; have p1 : w1.cell? ⟨w.heap.size + 2, 1, none⟩ = some (.slice none 0 0) := block_cell G2.out 1; have z0 := block_frozen G0.out 1)
  have HE0 := ext_trans (ext_alloc (ext_alloc (ext_alloc (ext_refl w) (.cells #[.int .i64 room, .slice A L.length c] 47)) (.cells #[.int .i64 k.a, .int .i64 k.b, .int .i64 k.c] 22)) (.cells #[.int .i64 0, .slice none 0 0] 47)) HE.out
  refine bodyPost_ret (v := .tuple #[RS room (.slice A L.length c), .int .i64 4]) (by rw [results_cell_tmp rfl]; go_simp) rfl ?_
  exact ⟨rfl, ext_set (ext_set HE0 (by simp; omega) _) (by simp; omega) _⟩

theorem flat_part {w : World} {g : Nat} {cur : Array Value} {t : TypeId} {L : List Key} (i : Nat) (hg : w.heap[g]? = some (.cells cur t (0, 0))) (h4 : cur.toList.take (L.length * 3) = flat L) : ∀ j u, (flat (L.drop i))[j]? = some u → w.cell? ((⟨g, i * 3, none⟩ : Addr).add j) = some u := fun j u hu => by
  rw [flat_drop, List.getElem?_drop] at hu
  have := flat_news hg h4 (i * 3 + j) u hu
  have e1 : (⟨g, i * 3, none⟩ : Addr).add j = ⟨g, i * 3 + j, none⟩ := by unfold Addr.add; split <;> simp_all
  have e2 : (⟨g, 0, none⟩ : Addr).add (i * 3 + j) = ⟨g, i * 3 + j, none⟩ := by unfold Addr.add; split <;> simp_all
  rw [e1, ← e2]
  exact this
theorem rowL_take {w : World} {g cap : Nat} {L : List Key} {n : Nat} (i : Nat) (hi : i ≤ L.length) (h : rowL w (.slice (some ⟨g, 0, none⟩) n cap) L) : rowL w (.slice (some ⟨g, 0, none⟩) i cap) (L.take i) := by
  rcases rowL_cases h with ⟨h1, _⟩ | ⟨g', cap', cur, h1, h2, h3, h4, h5, h6⟩
  · cases h1
  · simp only [Value.slice.injEq, Option.some.injEq, Addr.mk.injEq, and_true] at h1
    obtain ⟨rfl, -, rfl⟩ := h1
    have hl : (L.take i).length = i := by simp; omega
    refine ⟨flat_length _, .inr ⟨g, cap, cur, by rw [hl], Nat.zero_le _, h2, by omega, h4, h5, ?_⟩⟩
    rw [hl, flat_take, ← h6, List.take_take, Nat.min_eq_left (by omega)]
end Go.Proofs.YtfaegjlolhpofaaDoor
