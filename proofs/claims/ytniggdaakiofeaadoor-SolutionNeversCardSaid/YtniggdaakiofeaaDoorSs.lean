/- awake. -/
import Derived.Test.YtniggdaakiofeaaDoorSo
namespace Go.Proofs.YtniggdaakiofeaaDoor
open Go Go.RowKit Go.Sort
set_option maxHeartbeats 4000000

def xS : ByteArray := ⟨#[120]⟩
theorem aw_set : setS [xS] = [xS] := by decide +kernel
theorem aw_of : [[(3 : Int)]].map (ofRow [xS]) = [[3]] := by decide +kernel
theorem aw_set2 : setS ([xS] ++ []) = [xS] := by decide +kernel
theorem aw_join : joinN [xS] [] [[3]] [[]] = [[3]] := by decide +kernel
theorem aw_good : goodB [xS] [[3]] = true := by decide +kernel
def TabF (H : Nat) (V : List ByteArray) (R : List (List Int)) (v : Value) (w : World) : Prop := ∃ vv rv, v = .agg #[vv, rv] ∧ Own H w vv rv V R
theorem tabF_ext {H : Nat} {V : List ByteArray} {R : List (List Int)} (v : Value) (w w' : World) (hE : Ext w w') (h : TabF H V R v w) : TabF H V R v w' := by
  obtain ⟨vv, rv, h1, h2⟩ := h
  exact ⟨vv, rv, h1, own_ext h2 hE⟩
def CellF (H : Nat) (v : Value) (w : World) : Prop := ∃ g, v = .pointer (some ⟨g, 0, none⟩) ∧ H ≤ g ∧ w.heap[g]? = some (.cells #[.slice none 0 0, .slice none 0 0] 31 (0, 0))
theorem cellF_ext {H : Nat} (v : Value) (w w' : World) (hE : Ext w w') (h : CellF H v w) : CellF H v w' := by
  obtain ⟨g, h1, h2, h3⟩ := h
  exact ⟨g, h1, h2, (ext_block hE (block_lt h3)).trans h3⟩
set_option maxRecDepth 100000 in
theorem awake_any (w : World) : Calls Tryd.prog 9 #[] w fun e w' => e = .returned (.bool true) ∧ Ext w w' := by
  obtain ⟨g0, g1, g2⟩ := heap_three w (.cells #[.string xS] 9) (.cells #[.int .i64 3] 3) (.cells #[.slice (some ⟨w.heap.size + 1, 0, none⟩) 1 1] 41)
  have hE0 := ext_alloc (ext_alloc (ext_alloc (ext_refl w) (.cells #[.string xS] 9)) (.cells #[.int .i64 3] 3)) (.cells #[.slice (some ⟨w.heap.size + 1, 0, none⟩) 1 1] 41)
  have CO := Lib.hid (of_any (.slice (some ⟨w.heap.size, 0, none⟩) 1 1) (.slice (some ⟨w.heap.size + 1 + 1, 0, none⟩) 1 1) [xS] [[3]] (((w.alloc (.cells #[.string xS] 9)).alloc (.cells #[.int .i64 3] 3)).alloc (.cells #[.slice (some ⟨w.heap.size + 1, 0, none⟩) 1 1] 41))
    ⟨_, _, rfl, by simp, fun _ => ⟨w.heap.size, 0, rfl, block_lt g0, fun i y hy => by
      cases i with
      | zero => simp at hy; subst hy; exact block_cell g0 0
      | succ i => simp at hy⟩⟩
    ⟨_, _, rfl, by simp, fun _ => ⟨w.heap.size + 1 + 1, 0, rfl, block_lt g2, fun i y hy => by
      cases i with
      | zero =>
        simp at hy; subst hy
        refine ⟨_, block_cell g2 0, _, _, rfl, by simp, fun _ => ⟨w.heap.size + 1, 0, rfl, block_lt g1, fun i y hy => ?_⟩⟩
        cases i with
        | zero => simp at hy; subst hy; exact block_cell g1 0
        | succ i => simp at hy
      | succ i => simp at hy⟩⟩ (by simp) (by simp) (by simp))
  rw [aw_set, aw_of] at CO
  have HE0 := Lib.hid hE0
  clear g0 g1 g2 hE0
  go_enter Tryd.func9, Tryd.ntmps9
  go_wp2_with (go_at_call 21; refine CO.out.mono ?_; rintro e w1 ⟨vv, rv, rfl, how, hE1⟩; obtain ⟨A1, c1, rfl⟩ := rdS_form (rdS_row how.1.1); obtain ⟨A2, c2, rfl⟩ := rdW_form (own_rdW how); have HOW := Lib.hid how; have HE1 := Lib.hid (ext_trans HE0.out hE1); clear how hE1)
  have hp1 := heap_alloc_new w1 (.cells #[.slice A1 [xS].length c1, .slice A2 [[(3 : Int)]].length c2] 31)
  obtain ⟨W1, hW1⟩ : ∃ W1, W1 = w1.alloc (.cells #[.slice A1 [xS].length c1, .slice A2 [[(3 : Int)]].length c2] 31) := ⟨_, rfl⟩
  have hEW : Ext w1 W1 := by rw [hW1]; exact ext_alloc (ext_refl _) _
  obtain ⟨p, hp⟩ : ∃ p, p = w1.heap.size := ⟨_, rfl⟩
  rw [← hW1, ← hp] at hp1
  have HB := Lib.hid hp1
  have HT := Lib.hid (tabV_ext (own_tab HOW.out) hEW)
  have HEW := Lib.hid (ext_trans HE1.out hEW)
  have e0 : (.slice A1 [xS].length c1 : Value) = .slice A1 1 c1 := rfl
  have e1 : (.slice A2 [[(3 : Int)]].length c2 : Value) = .slice A2 1 c2 := rfl
  have hgo : w1.alloc (.cells #[.slice A1 1 c1, .slice A2 1 c2] 31) = W1 := hW1.symm
  rw [hgo]
  clear hW1 hgo hEW hp1 e0 e1
  have q0 : W1.cell? ⟨p, 0, none⟩ = some (.slice A1 1 c1) := block_cell HB.out 0
  have q1 : W1.cell? ⟨p, 1, none⟩ = some (.slice A2 1 c2) := block_cell HB.out 1
  have l0 := block_lt HB.out
  rw [← hp]
  clear hp
  have hgc := cell_grown
  refine wp_region_gen [] [0] [(1, TabF W1.heap.size [] [[]]), (2, TabF W1.heap.size [xS] [[3]]), (3, CellF W1.heap.size)] [4] [1, 2, 3] rfl (by kernel_rfl) (by kernel_rfl) (fun _ _ d _ _ h => by cases d <;> exact h) ?_
  refine wpPre_nil ?_
  repeat (refine wpLoose_step rfl (fun K hK => ?_); (try simp only [Oper.quietAt, Oper.quietUpon]); go_simp; (refine hK _ ?_; clear hK K))
  refine wpLoose_nil ?_
  refine wpGen_step rfl rfl tabF_ext (fun w6 hE6 hS6 => ?_) (fun v1 => ?_)
  · simp only [runsAt]
    go_simp
    refine (unit_any w6).mono ?_
    rintro e w7 ⟨vv, rv, rfl, h3, h4⟩
    exact ⟨_, rfl, h4, vv, rv, rfl, own_low h3 (ext_size hE6)⟩
  refine wpGen_step rfl rfl tabF_ext (fun w6 hE6 hS6 => ?_) (fun v2 => ?_)
  · obtain ⟨vv, rv, hv, how⟩ : TabF W1.heap.size [] [[]] v1 w6 := hS6 _ (List.mem_cons_self ..) (by kernel_rfl)
    subst hv
    simp only [runsAt]
    go_simp
    refine (join_any (.slice A1 1 c1) (.slice A2 1 c2) vv rv [xS] [] [[3]] [[]] w6 (tabV_ext HT.out hE6) (own_tab how) (List.pairwise_singleton _ _) .nil (by simp) (by simp) (by simp) (by simp) (by simp) (by simp) (by simp)).mono ?_
    rintro e w7 ⟨vv', rv', rfl, h3, h4⟩
    rw [aw_set2, aw_join] at h3
    exact ⟨_, rfl, h4, vv', rv', rfl, own_low h3 (ext_size hE6)⟩
  refine wpGen_step rfl rfl cellF_ext (fun w6 hE6 hS6 => ?_) (fun v3 => ?_)
  · simp only [runsAt]
    go_simp
    exact ⟨ext_alloc (ext_refl _) _, _, rfl, ext_size hE6, heap_alloc_new w6 _⟩
  refine wpGen_nil (fun w8 hE8 hS8 => ?_)
  obtain ⟨g, hg, hHg, hgb⟩ : CellF W1.heap.size v3 w8 := hS8 _ (List.mem_cons_self ..)
  obtain ⟨vv, rv, hv, how⟩ : TabF W1.heap.size [xS] [[3]] v2 w8 := hS8 _ (List.mem_cons_of_mem _ (List.mem_cons_self ..))
  subst hg hv
  obtain ⟨A3, c3, rfl⟩ := rdS_form (rdS_row how.1.1)
  obtain ⟨A4, c4, rfl⟩ := rdW_form (own_rdW how)
  have HOW8 := Lib.hid how
  have HGB := Lib.hid hgb
  have HE8 := Lib.hid hE8
  have HHG := Lib.hid hHg
  clear how hgb hE8 hS8 hHg q0 q1 hgc l0
  have r0 : w8.cell? ⟨g, 0, none⟩ = some (.slice none 0 0) := block_cell HGB.out 0
  have r1 : w8.cell? ⟨g, 1, none⟩ = some (.slice none 0 0) := block_cell HGB.out 1
  have s0 := block_frozen HGB.out 0
  have s1 := block_frozen HGB.out 1
  have lg := block_lt HGB.out
  refine wpSeq_of_list [4] [_] _ _ rfl ?_
  obtain ⟨w9, hw9⟩ : ∃ w9, w9 = (w8.setCell ⟨g, 0, none⟩ (.slice A3 1 c3)).setCell ⟨g, 1, none⟩ (.slice A4 1 c4) := ⟨_, rfl⟩
  have hb9 : w9.heap[g]? = some (.cells #[.slice A3 1 c3, .slice A4 1 c4] 31 (0, 0)) := by
    have := heap_setCell_at (j := 1) (u := .slice A4 1 c4) (heap_setCell_at (j := 0) (u := .slice A3 1 c3) HGB.out)
    rw [hw9]
    exact this
  have hU9 : Upd (fun x => x = g) w8 w9 := by
    rw [hw9]
    exact upd_trans (fp := fun x => x = g) (upd_setCell (a := ⟨g, 0, none⟩) _) (upd_setCell (a := ⟨g, 1, none⟩) _) (fun _ _ h => h)
  have hE9 : Ext W1 w9 := ext_upd HE8.out hU9 (fun b e => by rw [show b = g from e]; exact HHG.out)
  have how9 := own_off HOW8.out hU9 (fun b hb cur t ht => by
    rw [show b = g from hb, HGB.out] at ht
    simp only [Option.some.injEq, Obj.cells.injEq] at ht
    rw [← ht.2.1]
    decide)
  have HW9 := Lib.hid hw9
  have hE19 := ext_trans HEW.out hE9
  have HE19 := Lib.hid hE19
  have HT9 := Lib.hid (tabV_ext HT.out hE9)
  have hrw := own_rdW HOW8.out
  obtain ⟨b4, o4, B, d4, rfl, hb4, hc4, hri⟩ := rdW_at hrw (i := 0) (x := [3]) rfl
  obtain ⟨bB, oB, rfl, hbB, hcB⟩ := rdI_at hri (i := 0) (x := 3) rfl
  have hne : ∀ b o u, w8.cell? ⟨b, o, none⟩ = some u → (∃ n A c, u = .slice A n c ∧ (n ≠ 0)) → b ≠ g := fun b o u h1 ⟨n, A, c, h2, h3⟩ e => by
    rw [e] at h1
    rw [block_cell HGB.out o] at h1
    match o, h1 with
    | 0, h1 => simp at h1; rw [← h1] at h2; simp at h2; exact h3 h2.2.1.symm
    | 1, h1 => simp at h1; rw [← h1] at h2; simp at h2; exact h3 h2.2.1.symm
    | o + 2, h1 => simp at h1
  have n4 : b4 ≠ g := hne _ _ _ hc4 ⟨_, _, _, rfl, by simp⟩
  have nB : bB ≠ g := fun e => by
    rw [e] at hcB
    rw [block_cell HGB.out _] at hcB
    match oB, hcB with
    | 0, h1 => simp at h1
    | 1, h1 => simp at h1
    | o + 2, h1 => simp at h1
  have hbp8 := (ext_block HE8.out (block_lt HB.out)).trans HB.out
  have np : p ≠ g := by have := HHG.out; have := block_lt HB.out; omega
  have p0 : w8.cell? ⟨p, 0, none⟩ = some (.slice A1 1 c1) := block_cell hbp8 0
  have p1 : w8.cell? ⟨p, 1, none⟩ = some (.slice A2 1 c2) := block_cell hbp8 1
  have lp := block_lt hbp8
  have n4' := n4.symm
  have nB' := nB.symm
  have np' := np.symm
  rw [Nat.add_zero] at hc4 hcB
  have hc4' : w8.cell? ⟨b4, o4, none⟩ = some (.slice (some ⟨bB, oB, none⟩) 1 d4) := hc4
  clear hw9 hb9 hU9 hE9 how9 hE19 hrw hri hne hbp8 hc4
  go_wp2_with (go_at_call 39; rw [← HW9.out]; refine (good_any _ [xS] [[3]] w9 HT9.out (by simp) (by simp) (by simp)).mono ?_; rintro e w10 ⟨rfl, hE10⟩; have HE10 := Lib.hid (ext_trans HE19.out hE10); rw [aw_good]; clear hE10)
  refine bodyPost_ret (results_tmp rfl _ _ _) rfl ?_
  exact ⟨rfl, HE10.out⟩
end Go.Proofs.YtniggdaakiofeaaDoor
