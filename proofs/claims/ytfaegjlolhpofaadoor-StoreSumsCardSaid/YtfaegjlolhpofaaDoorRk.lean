/- The document's Add: where the new list lies. -/
import Derived.Test.YtfaegjlolhpofaaDoorRj
namespace Go.Proofs.YtfaegjlolhpofaaDoor
open Go.RowKit Go.Sort
set_option maxHeartbeats 800000

theorem refadd_okF (room : Int) (lv : Value) (L : List Key) (k : Key) (w : World) (hr : rowL w lv L) (hm : L.length < 1000000) (ha : 0 ≤ k.a) (hb : 0 ≤ k.b) (hc : 0 ≤ k.c) (hi : idxL L k 0 < 0) (hroom : (L.length : Int) < room) :
    Calls Tryd.prog 20 #[RS room lv, K3 k.a k.b k.c] w fun e w' => ∃ lv', e = .returned (.tuple #[RS room lv', .int .i64 0]) ∧ rowF w.heap.size (L ++ [k]) lv' w' ∧ Ext w w' := by
  obtain ⟨A, n, c, rfl, hn⟩ : ∃ A n c, lv = .slice A n c ∧ n = L.length := by
    rcases rowL_cases hr with ⟨h, h2⟩ | ⟨_, _, _, h, _⟩
    · exact ⟨_, _, _, h, by rw [h2]; rfl⟩
    · exact ⟨_, _, _, h, rfl⟩
  subst hn
  have HR := Lib.hid hr
  clear hr
  have ha' : ¬ k.a < 0 := by omega
  have hb' : ¬ k.b < 0 := by omega
  have hc' : ¬ k.c < 0 := by omega
  have hi' : ¬ 0 ≤ idxL L k 0 := by omega
  have hro : ¬ room ≤ (L.length : Int) := by omega
  go_enter Tryd.func20, Tryd.ntmps20
  go_wp2_with (go_at_call 26; refine (refind_row room _ L k _ (row_ext HR.out ?_) (by omega)).mono ?_; (exact ext_alloc (ext_alloc (ext_alloc (ext_refl _) _) _) _); rintro e w1 ⟨rfl, hE⟩; have HE := Lib.hid hE; clear hE; obtain ⟨g0, g1, g2⟩ := heap_three w (.cells #[.int .i64 room, .slice A L.length c] 47) (.cells #[.int .i64 k.a, .int .i64 k.b, .int .i64 k.c] 22) (.cells #[.int .i64 0, .slice none 0 0] 47); have G0 := Lib.hid ((ext_block HE.out (block_lt g0)).trans g0); have G1 := Lib.hid ((ext_block HE.out (block_lt g1)).trans g1); have G2 := Lib.hid ((ext_block HE.out (block_lt g2)).trans g2); clear g0 g1 g2; have q0 : w1.cell? ⟨w.heap.size, 0, none⟩ = some (.int .i64 room) := block_cell G0.out 0; have q1 : w1.cell? ⟨w.heap.size, 1, none⟩ = some (.slice A L.length c) := block_cell G0.out 1; have k0 : w1.cell? ⟨w.heap.size + 1, 0, none⟩ = some (.int .i64 k.a) := block_cell G1.out 0; have k1 : w1.cell? ⟨w.heap.size + 1, 1, none⟩ = some (.int .i64 k.b) := block_cell G1.out 1; have k2 : w1.cell? ⟨w.heap.size + 1, 2, none⟩ = some (.int .i64 k.c) := block_cell G1.out 2; have m0 := block_lt G0.out; have m1 := block_lt G1.out; have m2 := block_lt G2.out; have z0 := block_frozen G0.out 1)
  have hgc := cell_grown
  refine wp_region_gen [] [1, 2, 4] [(0, noneF w1.heap.size), (3, rowF w1.heap.size L), (5, oneF w1.heap.size k)] [6, 7, 8] [0, 3, 5] rfl (by kernel_rfl) (by kernel_rfl) (fun _ _ d _ _ h => by cases d <;> exact h) ?_
  refine wpPre_nil ?_
  repeat (refine wpLoose_step rfl (fun K hK => ?_); (try simp only [Oper.quietAt, Oper.quietUpon]); go_simp; (refine hK _ ?_; clear hK K))
  refine wpLoose_nil ?_
  have HE0 := Lib.hid (ext_trans (ext_alloc (ext_alloc (ext_alloc (ext_refl w) (.cells #[.int .i64 room, .slice A L.length c] 47)) (.cells #[.int .i64 k.a, .int .i64 k.b, .int .i64 k.c] 22)) (.cells #[.int .i64 0, .slice none 0 0] 47)) HE.out)
  refine wpGen_step rfl rfl noneF_ext (fun w2 hE2 hS2 => ?_) (fun v0 => ?_)
  · simp only [runsAt]
    go_simp
    exact ⟨ext_alloc (ext_refl _) _, _, rfl, ext_size hE2, heap_alloc_new w2 _⟩
  refine wpGen_step rfl rfl rowF_ext (fun w2 hE2 hS2 => ?_) (fun v1 => ?_)
  · exact runs_copy (.tmp 32) (.tmp 34) rfl rfl rfl (hS2 _ (List.mem_cons_self ..) (by kernel_rfl)) (row_ext HR.out (ext_trans HE0.out hE2)) (by omega)
  refine wpGen_step rfl rfl oneF_ext (fun w2 hE2 hS2 => ?_) (fun v2 => ?_)
  · simp only [runsAt]
    go_simp
    exact ⟨ext_alloc (ext_refl _) _, _, rfl, ext_size hE2, heap_alloc_new w2 _⟩
  refine wpGen_nil (fun w2 hE2 hS2 => ?_)
  obtain ⟨gk, rfl, hgk, hbk⟩ := hS2 _ (List.mem_cons_self ..)
  obtain ⟨hrow, hfr⟩ := hS2 _ (List.mem_cons_of_mem _ (List.mem_cons_self ..))
  clear hS2 q0 q1 k0 k1 k2 z0
  have HE2 := Lib.hid hE2
  have HBK := Lib.hid hbk
  have HROW := Lib.hid hrow
  have HFR := Lib.hid hfr
  clear hE2 hbk hrow hfr
  obtain ⟨i0, hi0, hz0, hz1, hz2⟩ := info_parts info22
  have HI := Lib.hid hi0
  have HZ0 := Lib.hid hz0
  have HZ1 := Lib.hid hz1
  have HZ2 := Lib.hid hz2
  clear hi0 hz0 hz1 hz2
  refine wpSeq_of_list [6, 7, 8] [_, _, _] _ _ rfl ?_
  refine wpList_append_lies _ rfl (.tmp 35) (.tmp 37) 45 rfl 0 22 i0 (K3 0 0 0) 3 24 Tryd.underlying45 HI.out HZ0.out HZ1.out HZ2.out rfl (by decide) v1 L.length (flat L) rfl HROW.out ⟨gk, 0, none⟩ 1 1 (key3 k).toList rfl rfl (World.news_of_block HBK.out) (key3_one k) (by decide) (by unfold maxLen; omega) (by omega) (Nat.zero_le _) _ rfl ?_
  intro g' cap' w4 hown4 hgr4 hor4 hlt4
  have HOWN := Lib.hid hown4
  have HGR := Lib.hid hgr4
  have HOR := Lib.hid hor4
  clear hown4 hgr4 hor4
  have G04 := Lib.hid ((HGR.out.block _ (ext_lt HE2.out m0) (fun e => by have := HFR.out _ e.symm; omega)).trans ((ext_block HE2.out m0).trans G0.out))
  have G24 := Lib.hid ((HGR.out.block _ (ext_lt HE2.out m2) (fun e => by have := HFR.out _ e.symm; omega)).trans ((ext_block HE2.out m2).trans G2.out))
  have q0 : w4.cell? ⟨w.heap.size, 0, none⟩ = some (.int .i64 room) := block_cell G04.out 0
  have q1 : w4.cell? ⟨w.heap.size, 1, none⟩ = some (.slice A L.length c) := block_cell G04.out 1
  have z0 := block_frozen G04.out 1
  have z2 := block_frozen G24.out 0
  have z3 := block_frozen G24.out 1
  have p0 : w4.cell? ⟨w.heap.size + 2, 0, none⟩ = some (.int .i64 0) := block_cell G24.out 0
  have p1 : w4.cell? ⟨w.heap.size + 2, 1, none⟩ = some (.slice none 0 0) := block_cell G24.out 1
  have n0 := block_lt G04.out
  have n2 := block_lt G24.out
  go_wp2
  have hs0 := ext_size HE0.out
  have hs1 := block_lt G2.out
  have hEf : Ext w w4 := Below.grown (ext_trans HE0.out HE2.out) HGR.out (ext_size (ext_trans HE0.out HE2.out)) (fun g e => by have := HFR.out _ e; omega)
  have hgg : w1.heap.size ≤ g' := by
    rcases HOR.out with h | h
    · exact HFR.out _ h
    · have := ext_size HE2.out; omega
  have hrow4 : rowL w4 (.slice (some ⟨g', 0, none⟩) (L.length + 1) cap') (L ++ [k]) := by
    have := HOWN.out
    unfold rowL
    rw [List.length_append, flat_append]
    simpa [flat, key3] using this
  refine bodyPost_ret (v := .tuple #[RS room (.slice (some ⟨g', 0, none⟩) (L.length + 1) cap'), .int .i64 0]) (by rw [results_cell_tmp rfl]; go_simp) rfl ?_
  refine ⟨_, rfl, ⟨?_, fun g hg => by cases hg; exact Nat.le_trans (ext_size HE0.out) hgg⟩, ?_⟩
  · refine ownsRow_setCell_other (ownsRow_setCell_other (ownsRow_setCell_other hrow4 ?_ _) ?_ _) ?_ _
    all_goals (intro e; have e2 := Option.some.inj e; simp only at e2; omega)
  · exact ext_set (ext_set (ext_set hEf (Nat.le_refl _) _) (by simp; omega) _) (by simp; omega) _

theorem refadd_anyF (room : Int) (lv : Value) (L : List Key) (k : Key) (w : World) (hr : rowL w lv L) (hm : L.length < 1000000) :
    Calls Tryd.prog 20 #[RS room lv, K3 k.a k.b k.c] w fun e w' => ∃ lv', e = .returned (.tuple #[RS room lv', .int .i64 (addC room L k)]) ∧ (rowL w' lv' (addL room L k) ∧ ∀ g, lv'.ownBlock = some g → lv.ownBlock = some g ∨ w.heap.size ≤ g) ∧ Ext w w' := by
  by_cases h1 : k.a < 0 ∨ k.b < 0 ∨ k.c < 0
  · have hc : addC room L k = 2 := by unfold addC; rw [if_pos h1]
    have hl : addL room L k = L := by unfold addL; rw [hc]; rfl
    rw [hc, hl]
    refine (refadd_neg room lv L k w hr h1).mono ?_
    rintro e w' ⟨rfl, hE⟩
    exact ⟨_, rfl, ⟨row_ext hr hE, fun g h => .inl h⟩, hE⟩
  · have ha : 0 ≤ k.a := by omega
    have hb : 0 ≤ k.b := by omega
    have hc : 0 ≤ k.c := by omega
    by_cases h2 : k ∈ L
    · have e : addC room L k = 5 := by unfold addC; rw [if_neg h1, if_pos h2]
      have hl : addL room L k = L := by unfold addL; rw [e]; rfl
      rw [e, hl]
      have hi : 0 ≤ idxL L k 0 := by
        obtain ⟨i, _, h3, _⟩ := idxL_pos L k 0 h2
        omega
      refine (refadd_there room lv L k w hr hm ha hb hc hi).mono ?_
      rintro e w' ⟨rfl, hE⟩
      exact ⟨_, rfl, ⟨row_ext hr hE, fun g h => .inl h⟩, hE⟩
    · by_cases h3 : room ≤ L.length
      · have e : addC room L k = 6 := by unfold addC; rw [if_neg h1, if_neg h2, if_pos h3]
        have hl : addL room L k = L := by unfold addL; rw [e]; rfl
        rw [e, hl]
        refine (refadd_full room lv L k w hr hm ha hb hc (idxL_lt.2 h2) h3).mono ?_
        rintro e w' ⟨rfl, hE⟩
        exact ⟨_, rfl, ⟨row_ext hr hE, fun g h => .inl h⟩, hE⟩
      · have e : addC room L k = 0 := by unfold addC; rw [if_neg h1, if_neg h2, if_neg h3]
        have hl : addL room L k = L ++ [k] := by unfold addL; rw [e]; rfl
        rw [e, hl]
        refine (refadd_okF room lv L k w hr hm ha hb hc (idxL_lt.2 h2) (by omega)).mono ?_
        rintro e w' ⟨lv', rfl, hF, hE⟩
        exact ⟨_, rfl, ⟨hF.1, fun g h => .inr (hF.2 g h)⟩, hE⟩
end Go.Proofs.YtfaegjlolhpofaaDoor
