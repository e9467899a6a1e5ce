/- The document's store: Remove, where one is removed. -/
import Derived.Test.YtfaegjlolhpofaaDoorRe
namespace Go.Proofs.YtfaegjlolhpofaaDoor
open Go.RowKit Go.Sort
set_option maxHeartbeats 800000

theorem wpList_nothing {ops : Array Oper} {rest : List Oper} {o : Oper} {a : Act} {w : World} {Q : Exit → Act → World → Prop} (hgd : o.guard = none) (s x : Operand) (ho : o.op = .call { callee := .builtin .append, args := #[s, x], argTypes := #[45, 45] })
    (A : Option Addr) (n c : Nat) (hs : a.eval s = .slice A n c) (hnc : n ≤ c) (B : Option Addr) (c' : Nat) (hx : a.eval x = .slice B 0 c') (h : wpList Tryd.prog ops Q rest (a.put o.dst (.slice A n c)) w) : wpList Tryd.prog ops Q (o :: rest) a w := by
  obtain ⟨i0, hi, hz0, hz1, hz2⟩ := info_parts info22
  have hsrc : Src Tryd.prog i0.size 45 (.slice B 0 c') 0 [] w := by
    cases B with
    | none => exact Src.ofNil w Tryd.underlying45 c'
    | some b => exact Src.ofSlice w Tryd.underlying45 b 0 c' [] (by simp) (fun j u h => by simp at h) (fun _ h => by cases h)
  have hrun := run_append_nothing (P := Tryd.prog) w 45 45 o.type 22 i0 Tryd.underlying45 hi A n c hnc (.slice B 0 c') hsrc
  refine wpList_plain hgd fun K hK => ?_
  unfold Oper.wp
  simp [execOp, ho, resolve, invoke, builtin, hs, hx, hrun, Result.andThen]
  exact hK _ _ h

theorem refremove_ok (room : Int) (lv : Value) (L : List Key) (k : Key) (w : World) (hr : rowL w lv L) (hm : L.length < 1000000) (i : Nat) (hi : idxL L k 0 = (i : Int)) (hil : i < L.length) :
    Calls Tryd.prog 23 #[RS room lv, K3 k.a k.b k.c] w fun e w' => ∃ lv', e = .returned (.tuple #[RS room lv', .int .i64 0]) ∧ rowL w' lv' (L.take i ++ L.drop (i + 1)) ∧ Ext w w' := by
  obtain ⟨g, c, rfl⟩ : ∃ g c, lv = .slice (some ⟨g, 0, none⟩) L.length c := by
    rcases rowL_cases hr with ⟨_, h2⟩ | ⟨g, cap, _, h, _⟩
    · rw [h2] at hil; simp at hil
    · exact ⟨g, cap, h⟩
  have hcap : L.length ≤ c := by
    rcases rowL_cases hr with ⟨h, _⟩ | ⟨_, _, _, h, _, h2, _⟩
    · cases h
    · simp only [Value.slice.injEq] at h; rw [h.2.2]; exact h2
  have HR := Lib.hid hr
  have HIX := Lib.hid hi
  clear hr hi
  have hneg : ¬ (i : Int) < 0 := by omega
  have hii : (i : Int) < (L.length : Int) := by omega
  have hi0 : (0 : Int) ≤ (i : Int) := by omega
  have hsum : IntKind.i64.wrap ((i : Int) + 1) = (i : Int) + 1 := IntWalk.i64_in _ (by omega)
  have hsn : ((i : Int) + 1).toNat = i + 1 := by omega
  have hic : i ≤ c := by omega
  have hic' : (i : Int) ≤ (c : Int) := by omega
  have hi1 : (i : Int) + 1 ≤ (L.length : Int) := by omega
  have hi2 : (0 : Int) ≤ (i : Int) + 1 := by omega
  have hi3 : i + 1 ≤ L.length := by omega
  go_enter Tryd.func23, Tryd.ntmps23
  go_wp2_with (go_at_call 26; refine (refind_row room _ L k _ (row_ext HR.out ?_) (by omega)).mono ?_; (exact ext_alloc (ext_alloc (ext_alloc (ext_refl _) _) _) _); rintro e w1 ⟨rfl, hE⟩; rw [HIX.out]; have HE := Lib.hid hE; clear hE; obtain ⟨g0, g1, g2⟩ := heap_three w (.cells #[.int .i64 room, .slice (some ⟨g, 0, none⟩) L.length c] 47) (.cells #[.int .i64 k.a, .int .i64 k.b, .int .i64 k.c] 22) (.cells #[.int .i64 0, .slice none 0 0] 47); have G0 := Lib.hid ((ext_block HE.out (block_lt g0)).trans g0); have G1 := Lib.hid ((ext_block HE.out (block_lt g1)).trans g1); have G2 := Lib.hid ((ext_block HE.out (block_lt g2)).trans g2); clear g0 g1 g2; have q0 : w1.cell? ⟨w.heap.size, 0, none⟩ = some (.int .i64 room) := block_cell G0.out 0; have q1 : w1.cell? ⟨w.heap.size, 1, none⟩ = some (.slice (some ⟨g, 0, none⟩) L.length c) := block_cell G0.out 1; have m0 := block_lt G0.out; have m1 := block_lt G1.out; have m2 := block_lt G2.out; have z2 := block_frozen G2.out 0; have z3 := block_frozen G2.out 1; have p0 : w1.cell? ⟨w.heap.size + 2, 0, none⟩ = some (.int .i64 0) := block_cell G2.out 0; have p1 : w1.cell? ⟨w.heap.size + 2, 1, none⟩ = some (.slice none 0 0) := block_cell G2.out 1; have z0 := block_frozen G0.out 1)
  have hgc := cell_grown
  have HE0 := Lib.hid (ext_trans (ext_alloc (ext_alloc (ext_alloc (ext_refl w) (.cells #[.int .i64 room, .slice (some ⟨g, 0, none⟩) L.length c] 47)) (.cells #[.int .i64 k.a, .int .i64 k.b, .int .i64 k.c] 22)) (.cells #[.int .i64 0, .slice none 0 0] 47)) HE.out)
  refine wp_region_gen [] [1, 2, 3, 4, 6, 7, 8, 9, 10] [(0, noneF w1.heap.size), (5, rowF w1.heap.size (L.take i))] [11, 12, 13] [0, 5] rfl (by kernel_rfl) (by kernel_rfl) (fun _ _ d _ _ h => by cases d <;> exact h) ?_
  refine wpPre_nil ?_
  repeat (refine wpLoose_step rfl (fun K hK => ?_); (try simp only [Oper.quietAt, Oper.quietUpon]); go_simp; (refine hK _ ?_; clear hK K))
  refine wpLoose_nil ?_
  obtain ⟨ad, had⟩ : ∃ ad, (if c = i + 1 then some (⟨g, 0, none⟩ : Addr) else some ⟨g, (i + 1) * 3, none⟩) = ad := ⟨_, rfl⟩
  rw [had]
  have hbef : i + 1 < L.length → ad = some ⟨g, (i + 1) * 3, none⟩ := fun h => by rw [← had, if_neg (by omega)]
  have HBEF := Lib.hid hbef
  clear had hbef
  refine wpGen_step rfl rfl noneF_ext (fun w2 hE2 hS2 => ?_) (fun v0 => ?_)
  · simp only [runsAt]
    go_simp
    exact ⟨ext_alloc (ext_refl _) _, _, rfl, ext_size hE2, heap_alloc_new w2 _⟩
  refine wpGen_step rfl rfl rowF_ext (fun w2 hE2 hS2 => ?_) (fun v1 => ?_)
  · exact runs_copy (.tmp 13) (.tmp 17) rfl rfl rfl (hS2 _ (List.mem_cons_self ..) (by kernel_rfl)) (rowL_take i (by omega) (row_ext HR.out (ext_trans HE0.out hE2))) (by simp; omega)
  refine wpGen_nil (fun w2 hE2 hS2 => ?_)
  obtain ⟨hrow, hfr⟩ := hS2 _ (List.mem_cons_self ..)
  clear hS2 q0 q1 z0 z2 z3 p0 p1
  have HE2 := Lib.hid hE2
  have HROW := Lib.hid hrow
  have HFR := Lib.hid hfr
  have hltk : (L.take i).length = i := by simp; omega
  clear hE2 hrow hfr
  refine wpSeq_of_list [11, 12, 13] [_, _, _] _ _ rfl ?_
  by_cases hm0 : L.length - (i + 1) = 0
  · have hdrop : L.drop (i + 1) = [] := List.drop_eq_nil_of_le (by omega)
    rw [hm0]
    obtain ⟨A1, c1, hv1, hc1⟩ : ∃ A1 c1, v1 = .slice A1 i c1 ∧ i ≤ c1 := by
      rcases rowL_cases HROW.out with ⟨h, h2⟩ | ⟨_, _, _, h, _, h2, _⟩
      · rw [h2] at hltk
        exact ⟨none, 0, by rw [h, ← hltk]; rfl, by rw [← hltk]; exact Nat.le_refl _⟩
      · rw [hltk] at h h2; exact ⟨_, _, h, h2⟩
    subst hv1
    refine wpList_nothing rfl (.tmp 18) (.tmp 23) rfl A1 i c1 rfl hc1 ad (c - (i + 1)) rfl ?_
    have G04 := Lib.hid ((ext_block HE2.out m0).trans G0.out)
    have G24 := Lib.hid ((ext_block HE2.out m2).trans G2.out)
    have q0 : w2.cell? ⟨w.heap.size, 0, none⟩ = some (.int .i64 room) := block_cell G04.out 0
    have q1 : w2.cell? ⟨w.heap.size, 1, none⟩ = some (.slice (some ⟨g, 0, none⟩) L.length c) := block_cell G04.out 1
    have z0 := block_frozen G04.out 1
    have z2 := block_frozen G24.out 0
    have z3 := block_frozen G24.out 1
    have p0 : w2.cell? ⟨w.heap.size + 2, 0, none⟩ = some (.int .i64 0) := block_cell G24.out 0
    have p1 : w2.cell? ⟨w.heap.size + 2, 1, none⟩ = some (.slice none 0 0) := block_cell G24.out 1
    have n0 := block_lt G04.out
    have n2 := block_lt G24.out
    go_wp2
    have hs0 := ext_size HE0.out
    have hs1 := block_lt G2.out
    have hEf : Ext w w2 := ext_trans HE0.out HE2.out
    have hrow4 : rowL w2 (.slice A1 i c1) (L.take i ++ L.drop (i + 1)) := by rw [hdrop, List.append_nil]; exact HROW.out
    have hoff : ∀ b, (Value.slice A1 i c1).ownBlock = some b → w1.heap.size ≤ b := HFR.out
    refine bodyPost_ret (v := .tuple #[RS room (.slice A1 i c1), .int .i64 0]) (by rw [results_cell_tmp rfl]; go_simp) rfl ?_
    refine ⟨_, rfl, ?_, ?_⟩
    · refine ownsRow_setCell_other (ownsRow_setCell_other (ownsRow_setCell_other hrow4 ?_ _) ?_ _) ?_ _
      all_goals (intro e; have := hoff _ e; simp only at this; omega)
    · exact ext_set (ext_set (ext_set hEf (Nat.le_refl _) _) (by simp; omega) _) (by simp; omega) _
  · obtain ⟨i0, hi0, hz0, hz1, hz2⟩ := info_parts info22
    have HI := Lib.hid hi0
    have HZ0 := Lib.hid hz0
    have HZ1 := Lib.hid hz1
    have HZ2 := Lib.hid hz2
    clear hi0 hz0 hz1 hz2
    rw [HBEF.out (by omega)]
    obtain ⟨cur, hcur, h4⟩ : ∃ cur, w2.heap[g]? = some (.cells cur 22 (0, 0)) ∧ cur.toList.take (L.length * 3) = flat L := by
      rcases rowL_cases (row_ext HR.out (ext_trans HE0.out HE2.out)) with ⟨h, _⟩ | ⟨g', cap', cur, h1, h2, _, _, _, h6⟩
      · cases h
      · simp only [Value.slice.injEq, Option.some.injEq, Addr.mk.injEq, and_true] at h1
        rw [h1.1]; exact ⟨cur, h2, h6⟩
    have HCUR := Lib.hid hcur
    have H4 := Lib.hid h4
    clear hcur h4
    refine wpList_append_lies _ rfl (.tmp 18) (.tmp 23) 45 rfl 0 22 i0 (K3 0 0 0) 3 24 Tryd.underlying45 HI.out HZ0.out HZ1.out HZ2.out rfl (by decide) v1 i (flat (L.take i)) rfl (by have := HROW.out; unfold rowL at this; rw [hltk] at this; exact this) ⟨g, (i + 1) * 3, none⟩ (L.length - (i + 1)) (c - (i + 1)) (flat (L.drop (i + 1))) rfl (by rw [flat_length, List.length_drop]) (flat_part (i + 1) HCUR.out H4.out) (flat_one _) (by omega) (by unfold maxLen; omega) (by omega) (Nat.zero_le _) _ rfl ?_
    intro g' cap' w4 hown4 hgr4 hor4 hlt4
    have HOWN := Lib.hid hown4
    have HGR := Lib.hid hgr4
    have HOR := Lib.hid hor4
    clear hown4 hgr4 hor4
    have G04 := Lib.hid ((HGR.out.block _ (ext_lt HE2.out m0) (fun e => by have := HFR.out _ e.symm; omega)).trans ((ext_block HE2.out m0).trans G0.out))
    have G24 := Lib.hid ((HGR.out.block _ (ext_lt HE2.out m2) (fun e => by have := HFR.out _ e.symm; omega)).trans ((ext_block HE2.out m2).trans G2.out))
    have q0 : w4.cell? ⟨w.heap.size, 0, none⟩ = some (.int .i64 room) := block_cell G04.out 0
    have q1 : w4.cell? ⟨w.heap.size, 1, none⟩ = some (.slice (some ⟨g, 0, none⟩) L.length c) := block_cell G04.out 1
    have z0 := block_frozen G04.out 1
    have z2 := block_frozen G24.out 0
    have z3 := block_frozen G24.out 1
    have p0 : w4.cell? ⟨w.heap.size + 2, 0, none⟩ = some (.int .i64 0) := block_cell G24.out 0
    have p1 : w4.cell? ⟨w.heap.size + 2, 1, none⟩ = some (.slice none 0 0) := block_cell G24.out 1
    have n0 := block_lt G04.out
    have n2 := block_lt G24.out
    go_wp2
    have hs0 := ext_size HE0.out
    have hs1 := block_lt G2.out
    have hEf : Ext w w4 := Below.grown (ext_trans HE0.out HE2.out) HGR.out (ext_size (ext_trans HE0.out HE2.out)) (fun g e => by have := HFR.out _ e; omega)
    have hgg : w1.heap.size ≤ g' := by
      rcases HOR.out with h | h
      · exact HFR.out _ h
      · have := ext_size HE2.out; omega
    have hrow4 : rowL w4 (.slice (some ⟨g', 0, none⟩) (i + (L.length - (i + 1))) cap') (L.take i ++ L.drop (i + 1)) := by
      have := HOWN.out
      unfold rowL
      rw [List.length_append, hltk, List.length_drop, flat_append]
      exact this
    refine bodyPost_ret (v := .tuple #[RS room (.slice (some ⟨g', 0, none⟩) (i + (L.length - (i + 1))) cap'), .int .i64 0]) (by rw [results_cell_tmp rfl]; go_simp) rfl ?_
    refine ⟨_, rfl, ?_, ?_⟩
    · refine ownsRow_setCell_other (ownsRow_setCell_other (ownsRow_setCell_other hrow4 ?_ _) ?_ _) ?_ _
      all_goals (intro e; have e2 := Option.some.inj e; simp only at e2; omega)
    · exact ext_set (ext_set (ext_set hEf (Nat.le_refl _) _) (by simp; omega) _) (by simp; omega) _
end Go.Proofs.YtfaegjlolhpofaaDoor
