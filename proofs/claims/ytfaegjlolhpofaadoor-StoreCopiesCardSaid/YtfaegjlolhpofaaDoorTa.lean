/- What is asked of each key that a scan tells. -/
import Derived.Test.YtfaegjlolhpofaaDoorRj
namespace Go.Proofs.YtfaegjlolhpofaaDoor
open Go.RowKit Go.Sort
set_option maxHeartbeats 800000

def Cb34Post (bok bi i : Nat) (most : Int) (w : World) (e : Ending) (w' : World) : Prop :=
  e = .returned (.bool (decide ((i : Int) + 1 < most))) ∧ w'.heap[bok]? = some (.cells #[.bool true] 4 (0, 0)) ∧ w'.heap[bi]? = some (.cells #[.int .i64 (i + 1 : Nat)] 3 (0, 0)) ∧ Upd (fun b => b = bok ∨ b = bi) w w'

theorem cb34 (x : Key) (bok bi bw bm i : Nat) (most : Int) (g cap : Nat) (M : List Key) (w : World) (h1 : w.heap[bok]? = some (.cells #[.bool true] 4 (0, 0))) (h2 : w.heap[bi]? = some (.cells #[.int .i64 i] 3 (0, 0)))
    (h3 : w.heap[bw]? = some (.cells #[.slice (some ⟨g, 0, none⟩) M.length cap] 45 (0, 0))) (h4 : w.heap[bm]? = some (.cells #[.int .i64 most] 3 (0, 0))) (hr : rowL w (.slice (some ⟨g, 0, none⟩) M.length cap) M) (hM : M.length ≤ 100000) (hi : i < M.length) (hx : kat M i = x) (hbm : bm ≠ bi) :
    Calls Tryd.prog 34 #[K3 x.a x.b x.c, .pointer (some ⟨bok, 0, none⟩), .pointer (some ⟨bi, 0, none⟩), .pointer (some ⟨bw, 0, none⟩), .pointer (some ⟨bm, 0, none⟩)] w (Cb34Post bok bi i most w) := by
  have hne : bok ≠ bi := fun e => by subst e; rw [h1] at h2; simp at h2
  have hne2 : bi ≠ bok := fun e => hne e.symm
  have hnm : bm ≠ bok := fun e => by subst e; rw [h4] at h1; simp at h1
  have hwi : bw ≠ bi := fun e => by subst e; rw [h3] at h2; simp at h2
  have hwo : bw ≠ bok := fun e => by subst e; rw [h3] at h1; simp at h1
  have H1 := Lib.hid h1
  have H2 := Lib.hid h2
  have H3 := Lib.hid h3
  have H4 := Lib.hid h4
  have HK := Lib.hid (rowL_keysIn hr)
  have hg := rowL_block hr
  have HX := Lib.hid hx
  clear h1 h2 h3 h4 hr hx
  have heq := eq25
  have hd : decide (x = x) = true := by simp
  have hii : (i : Int) < (M.length : Int) := by omega
  have hi0 : (0 : Int) ≤ (i : Int) := by omega
  go_enter Tryd.func34, Tryd.ntmps34
  go_wp2
  refine wp_gen (fun W hW => ?_)
  have HE := Lib.hid (show Ext w W by rw [hW]; exact ext_alloc (ext_refl _) _)
  have HB := Lib.hid (show W.heap[w.heap.size]? = some (.cells (key3 x) 25 (0, 0)) by rw [hW]; exact heap_alloc_new w _)
  clear hW
  obtain ⟨k0, k1, k2⟩ := HK.out i hi
  replace k0 := (ext_cell HE.out _ _ hg).trans k0
  replace k1 := (ext_cell HE.out _ _ hg).trans k1
  replace k2 := (ext_cell HE.out _ _ hg).trans k2
  rw [HX.out] at k0 k1 k2
  have B1 := Lib.hid ((ext_block HE.out (block_lt H1.out)).trans H1.out)
  have B2 := Lib.hid ((ext_block HE.out (block_lt H2.out)).trans H2.out)
  have B3 := Lib.hid ((ext_block HE.out (block_lt H3.out)).trans H3.out)
  have B4 := Lib.hid ((ext_block HE.out (block_lt H4.out)).trans H4.out)
  have c1 : W.cell? ⟨bok, 0, none⟩ = some (.bool true) := block_cell B1.out 0
  have c2 : W.cell? ⟨bi, 0, none⟩ = some (.int .i64 i) := block_cell B2.out 0
  have c3 : W.cell? ⟨bw, 0, none⟩ = some (.slice (some ⟨g, 0, none⟩) M.length cap) := block_cell B3.out 0
  have d0 : W.cell? ⟨w.heap.size, 0, none⟩ = some (.int .i64 x.a) := block_cell HB.out 0
  have d1 : W.cell? ⟨w.heap.size, 1, none⟩ = some (.int .i64 x.b) := block_cell HB.out 1
  have d2 : W.cell? ⟨w.heap.size, 2, none⟩ = some (.int .i64 x.c) := block_cell HB.out 2
  have l1 := block_lt B1.out
  have l2 := block_lt B2.out
  have l3 := block_lt B3.out
  have l5 := block_lt HB.out
  have lg : g < W.heap.size := ext_lt HE.out hg
  have hgc := cell_grown
  refine wp_region_mix [] [0, 1, 2, 3, 4, 5, 6, 7, 8, 9, 10, 11, 12, 13, 14] [] [15] (by kernel_rfl) (by kernel_rfl) (fun _ _ d _ _ h => by cases d <;> exact h) ?_
  refine wpPre_nil ?_
  repeat (refine wpLoose_step rfl (fun K hK => ?_); (try simp only [Oper.quietAt, Oper.quietUpon]); go_simp; (refine hK _ ?_; clear hK K))
  refine wpLoose_nil (wpFresh_nil (fun w3 hE3 _ => ?_))
  have HE3 := Lib.hid (ext_trans HE.out hE3)
  have C1 := Lib.hid ((ext_block hE3 l1).trans B1.out)
  have C2 := Lib.hid ((ext_block hE3 l2).trans B2.out)
  have C4 := Lib.hid ((ext_block hE3 (block_lt B4.out)).trans B4.out)
  clear hE3 k0 k1 k2 c1 c2 c3 d0 d1 d2 hgc l1 l2 l3 l5 lg
  refine wpSeq_of_list [15] [_] _ _ rfl ?_
  have z1 := block_frozen C1.out 0
  have z2 := block_frozen C2.out 0
  have c1 : w3.cell? ⟨bok, 0, none⟩ = some (.bool true) := block_cell C1.out 0
  have c2 : w3.cell? ⟨bi, 0, none⟩ = some (.int .i64 i) := block_cell C2.out 0
  have c4 : w3.cell? ⟨bm, 0, none⟩ = some (.int .i64 most) := block_cell C4.out 0
  go_wp2
  go_ret
  have hb1 : ((w3.setCell ⟨bok, 0, none⟩ (.bool true)).setCell ⟨bi, 0, none⟩ (.int .i64 (i + 1))).heap[bok]? = some (.cells #[.bool true] 4 (0, 0)) := by
    refine (Below.heap_setCell _ _ _ _ hne).trans ?_
    rw [heap_setCell_at C1.out]; rfl
  have hb2 : ((w3.setCell ⟨bok, 0, none⟩ (.bool true)).setCell ⟨bi, 0, none⟩ (.int .i64 (i + 1))).heap[bi]? = some (.cells #[.int .i64 (i + 1 : Nat)] 3 (0, 0)) := by
    have : (w3.setCell ⟨bok, 0, none⟩ (.bool true)).heap[bi]? = some (.cells #[.int .i64 i] 3 (0, 0)) := (Below.heap_setCell _ _ _ _ hne2).trans C2.out
    rw [heap_setCell_at this]; rfl
  exact ⟨rfl, hb1, hb2, upd_trans (upd_of_ext HE3.out) (upd_trans (upd_mono (upd_setCell _) (fun b _ h => .inl h)) (upd_mono (upd_setCell _) (fun b _ h => .inr h)) (fun _ _ h => h)) (fun _ _ h => h)⟩

def Cb18Post (bn n : Nat) (k x : Key) (w : World) (e : Ending) (w' : World) : Prop :=
  e = .returned (.bool true) ∧ w'.heap[bn]? = some (.cells #[.int .i64 ((n + if x = k then 1 else 0 : Nat))] 3 (0, 0)) ∧ Upd (fun b => b = bn) w w'

theorem cb18 (k x : Key) (bk bn n : Nat) (w : World) (h1 : w.heap[bk]? = some (.cells (key3 k) 22 (0, 0))) (h2 : w.heap[bn]? = some (.cells #[.int .i64 n] 3 (0, 0))) (hn : n ≤ 1000000) :
    Calls Tryd.prog 18 #[K3 x.a x.b x.c, .pointer (some ⟨bk, 0, none⟩), .pointer (some ⟨bn, 0, none⟩)] w (Cb18Post bn n k x w) := by
  have H1 := Lib.hid h1
  have H2 := Lib.hid h2
  clear h1 h2
  have heq := eq25
  by_cases he : x = k
  · have hd : decide (x = k) = true := by simp [he]
    have HEQ := Lib.hid he
    clear he
    have d0 : w.cell? ⟨bk, 0, none⟩ = some (.int .i64 k.a) := block_cell H1.out 0
    have d1 : w.cell? ⟨bk, 1, none⟩ = some (.int .i64 k.b) := block_cell H1.out 1
    have d2 : w.cell? ⟨bk, 2, none⟩ = some (.int .i64 k.c) := block_cell H1.out 2
    have c1 : w.cell? ⟨bn, 0, none⟩ = some (.int .i64 n) := block_cell H2.out 0
    have z1 := block_frozen H2.out 0
    have l1 := block_lt H1.out
    have l2 := block_lt H2.out
    go_enter Tryd.func18, Tryd.ntmps18
    go_wp2
    go_ret
    refine ⟨rfl, ?_, upd_trans (upd_mono (upd_setCell _) (fun b _ h => h)) (upd_of_ext (fp := fun b => b = bn) (ext_alloc (ext_refl _) _)) (fun _ _ h => h)⟩
    rw [if_pos HEQ.out]
    refine (Below.heap_alloc _ _ _ (by simpa using l2)).trans ?_
    rw [heap_setCell_at H2.out]; rfl
  · have hd : decide (x = k) = false := by simp [he]
    have HEQ := Lib.hid he
    clear he
    have d0 : w.cell? ⟨bk, 0, none⟩ = some (.int .i64 k.a) := block_cell H1.out 0
    have d1 : w.cell? ⟨bk, 1, none⟩ = some (.int .i64 k.b) := block_cell H1.out 1
    have d2 : w.cell? ⟨bk, 2, none⟩ = some (.int .i64 k.c) := block_cell H1.out 2
    have l1 := block_lt H1.out
    go_enter Tryd.func18, Tryd.ntmps18
    go_wp2
    go_ret
    refine ⟨rfl, ?_, upd_of_ext (ext_alloc (ext_refl _) _)⟩
    rw [if_neg HEQ.out]
    exact (ext_block (ext_alloc (ext_refl _) _) (block_lt H2.out)).trans H2.out
end Go.Proofs.YtfaegjlolhpofaaDoor
