/- slices.Delete on rows of buckets. -/
import Derived.Test.YtojgbphmkloicaaBr
namespace Go.Proofs.Ytojgbphmkloicaa
open Go Go.RowKit Go.Sort
set_option maxHeartbeats 800000

def CutPost (v : Value) (L : List Nat) (i j : Nat) (w : World) (e : Ending) (w' : World) : Prop :=
  ∃ v', e = .returned v' ∧ rowE elBk w' v' (cutAt L i j) ∧ Upd (fun b => v.ownBlock = some b) w w' ∧ v'.ownBlock = v.ownBlock
theorem wpList_haltX1 {P : Program} {ops : Array Oper} {Q : Exit → Act → World → Prop} {op : Op} {t : TypeId} {p : String} {af : Array Edge} {rest : List Oper} {a : Act} {w : World} (h : Hid (wpList P ops Q (⟨none, op, t, p, af, none⟩ :: rest) a w)) : wpList P ops Q (⟨none, op, t, p, af, none⟩ :: rest) a w := h
theorem zeroBk (w : World) : (zeroValue 51).run Try.prog w = .ok (.pointer none) w := by
  obtain ⟨i0, hi0, hz0, hz1, hz2⟩ := info_parts infoBk
  simp [zeroValue, typeInfo, hi0, hz0]
theorem zc_len (m : Nat) : (Builtin.zeroCells (Value.pointer none).cells m).toList.length = m := by
  rw [Array.length_toList, size_zeroCells]
  exact Nat.mul_one m
theorem zc_one (m : Nat) : ∀ v ∈ (Builtin.zeroCells (Value.pointer none).cells m).toList, v.oneCell' = true := by
  intro v hv
  simp only [Builtin.zeroCells, Array.toList_map, List.mem_map, Array.toList_range] at hv
  obtain ⟨i, hi, rfl⟩ := hv
  have h1 : i % (Value.pointer none).cells.size = 0 := Nat.mod_one i
  rw [h1]
  rfl
theorem cut_none (v : Value) (L : List Nat) (i : Nat) (w : World) (hrow : rowE elBk w v L) (hi : i ≤ L.length) (hm : L.length ≤ 1000000) :
    Calls Try.prog 21 #[v, .int .i64 (i : Int), .int .i64 (i : Int)] w (CutPost v L i i w) := by
  have HF := Lib.hid (show CutPost v L i i w (.returned v) w from ⟨v, rfl, by rw [show cutAt L i i = L by simp [cutAt]]; exact hrow, upd_refl, rfl⟩)
  have a1 : (i : Int) ≤ (L.length : Int) := by omega
  obtain ⟨n, hn⟩ : ∃ n, n = L.length := ⟨_, rfl⟩
  rcases row_is hrow with ⟨rfl, h0⟩ | ⟨g, cap, cur, rfl, hg, h1, h2, h3, h4⟩
  · obtain rfl : i = 0 := by rw [h0] at hi; simpa using hi
    clear hrow
    go_enter Try.func21, Try.ntmps21
    go_wp2
    go_ret
    exact HF.out
  · rw [← hn] at a1 h1 HF ⊢
    have a2 : (n : Int) ≤ (cap : Int) := by omega
    clear hrow hg h3 h4 hn
    go_enter Try.func21, Try.ntmps21
    go_wp2
    all_goals (go_ret; first | exact HF.out | (rename_i h; subst h; exact HF.out) | (rename_i h; rw [← h]; exact HF.out))
theorem cut_some (g n i j cap : Nat) (cur : Array Value) (L : List Nat) (w : World) (hn : L.length = n) (hm : n ≤ 1000000) (hij : i < j) (hj : j ≤ n) (hx : ¬ cap = j) (hroom : n ≤ cap) (hcm : cap ≤ maxLen)
    (hg : w.heap[g]? = some (.cells cur 51 (0, 0))) (htk : cur.toList.take n = L.map ptr) (hcs : cur.size = cap) :
    Calls Try.prog 21 #[.slice (some ⟨g, 0, none⟩) n cap, .int .i64 (i : Int), .int .i64 (j : Int)] w (CutPost (.slice (some ⟨g, 0, none⟩) n cap) L i j w) := by
  obtain ⟨i0, hi0, hz0, hz1, hz2⟩ := info_parts infoBk
  have HN := Lib.hid hn
  have HG := Lib.hid hg
  have HT := Lib.hid htk
  have HC := Lib.hid hcs
  have HI := Lib.hid hi0
  have HZ1 := Lib.hid hz1
  have HCM := Lib.hid hcm
  clear hn hg htk hcs hi0 hz0 hz1 hz2 hcm
  have hpe : ((i : Int) == (j : Int)) = false := by simp; omega
  obtain ⟨q, hq⟩ : ∃ q, q = n - (j - i) := ⟨_, rfl⟩
  have hqn : q < n := by omega
  have hiq : i + (n - j) = q := by omega
  have HQ := Lib.hid hq
  clear hq
  have hq0 : ¬ cap = q := by omega
  have hcp : ¬ cap = i := by omega
  have hnp : ¬ n = i := by omega
  have hs1 : (i : Int) ≤ (j : Int) := by omega
  have hs2 : (j : Int) ≤ (n : Int) := by omega
  have hs3 : (n : Int) ≤ (cap : Int) := by omega
  have hs4 : (i : Int) ≤ (cap : Int) := by omega
  have hq1 : (q : Int) ≤ (n : Int) := by omega
  go_enter Try.func21, Try.ntmps21
  go_wp2_with fail
  refine wp_region_free 6 [0, 1, 2, 3, 4, 5] [] (by kernel_rfl) (by kernel_rfl) ?_
  repeat (refine wpLoose_step rfl (fun K hK => ?_); (try simp only [Oper.quietAt, Oper.quietUpon]); go_simp; (refine hK _ ?_; clear hK K))
  refine wpLoose_nil (wpFresh_nil (fun W4 hE4 _ => ?_))
  simp only [List.drop_succ_cons, List.drop_zero]
  have HE4 := Lib.hid hE4
  clear hE4
  have HG4 := Lib.hid ((ext_block HE4.out (block_lt HG.out)).trans HG.out)
  have HS4 := Lib.hid (show ∀ k u, ((L.drop j).map ptr)[k]? = some u → W4.cell? ((⟨g, j, none⟩ : Addr).add k) = some u from fun k u hk => by
    rw [Addr.add_lit, block_cell HG4.out]
    rw [List.map_drop, ← HT.out, List.getElem?_drop, List.getElem?_take] at hk
    split at hk
    · simpa using hk
    · cases hk)
  have HL := Lib.hid (show ((L.drop j).map ptr).length = n - j by rw [flat_len, List.length_drop, HN.out])
  refine wpList_append_room _ rfl (.tmp 22) (.tmp 25) 45 rfl 51 i0 Try.underlying45 HI.out g i cap rfl cur HG4.out ⟨g, j, none⟩ (n - j) (cap - j) ((L.drop j).map ptr) (by rfl) (by rw [HL.out, HZ1.out, Nat.mul_one]) HS4.out (flat_one _) (by omega) (by rw [HL.out, HZ1.out, HC.out]; omega) q hiq ?_
  rw [HZ1.out, Nat.mul_one]
  have HG5 := Lib.hid (setRow_heap W4 g cur (splice cur.toList i ((L.drop j).map ptr)).toArray 51 (0, 0) HG4.out)
  have HU5 := Lib.hid (upd_setRow (w := W4) (g := g) (splice cur.toList i ((L.drop j).map ptr)).toArray)
  obtain ⟨W5, hW5⟩ : ∃ W5, W5 = W4.setRow g (splice cur.toList i ((L.drop j).map ptr)).toArray := ⟨_, rfl⟩
  rw [← hW5] at HG5 HU5 ⊢
  clear hW5
  have HLS := Lib.hid (length_splice cur.toList i ((L.drop j).map ptr) (by rw [HL.out]; simp [HC.out]; omega))
  go_wp2_with (with_reducible refine wpList_haltX1 ?_)
  refine go_on ?_
  refine wpList_clear_any _ rfl (.tmp 31) 45 rfl 51 (.pointer none) Try.underlying45 zeroBk g q (n - q) (cap - q) (by rfl) _ 51 HG5.out (by rw [zc_len, List.size_toArray, HLS.out]; simp [HC.out]; omega) (zc_one _) (by omega) ?_
  go_wp2
  go_ret
  refine ⟨_, rfl, row_mk (setRow_heap _ _ _ _ _ _ HG5.out) (by rw [cutAt_len (by omega) (by rw [HN.out]; omega), HN.out]; exact HQ.out) (by omega) HCM.out ?_ ?_, ?_, rfl⟩
  · have h2 : q + (Builtin.zeroCells (Value.pointer none).cells (n - q)).toList.length ≤ (splice cur.toList i ((L.drop j).map ptr)).length := by rw [zc_len, HLS.out]; simp [HC.out]; omega
    try rw [← List.map_drop]
    have h3 : q + (Builtin.zeroCells #[Value.pointer none] (n - q)).toList.length ≤ (splice cur.toList i ((L.drop j).map ptr)).length := h2
    rw [List.size_toArray, List.toList_toArray]
    first | rw [length_splice _ _ _ h2, HLS.out] | rw [length_splice _ _ _ h3, HLS.out]
    simp [HC.out]
  · rw [cutAt_len (by omega) (by rw [HN.out]; omega), HN.out, ← HQ.out]
    try rw [← List.map_drop]
    refine cut_cells cur.toList _ L i j q (by omega) (by rw [HN.out]; omega) (by rw [HN.out]; exact HQ.out) ?_
    rw [List.map_take, ← HT.out, List.take_take, Nat.min_eq_left (by omega)]
  · exact upd_trans (upd_trans (upd_of_ext HE4.out) HU5.out (fun i hi he => by rw [he]; rfl)) (upd_setRow _) (fun i hi he => by rw [he]; rfl)
theorem cut_last (g i j : Nat) (cur : Array Value) (L : List Nat) (w : World) (hn : L.length = j) (hm : j ≤ 1000000) (hij : i < j) (hcm : j ≤ maxLen)
    (hg : w.heap[g]? = some (.cells cur 51 (0, 0))) (htk : cur.toList.take j = L.map ptr) (hcs : cur.size = j) :
    Calls Try.prog 21 #[.slice (some ⟨g, 0, none⟩) j j, .int .i64 (i : Int), .int .i64 (j : Int)] w (CutPost (.slice (some ⟨g, 0, none⟩) j j) L i j w) := by
  obtain ⟨i0, hi0, hz0, hz1, hz2⟩ := info_parts infoBk
  have HN := Lib.hid hn
  have HG := Lib.hid hg
  have HT := Lib.hid htk
  have HC := Lib.hid hcs
  have HI := Lib.hid hi0
  have HZ1 := Lib.hid hz1
  have HCM := Lib.hid hcm
  clear hn hg htk hcs hi0 hz0 hz1 hz2 hcm
  have hpe : ((i : Int) == (j : Int)) = false := by simp; omega
  obtain ⟨q, hq⟩ : ∃ q, q = j - (j - i) := ⟨_, rfl⟩
  have hqn : q < j := by omega
  have hiq : i + (j - j) = q := by omega
  have HQ := Lib.hid hq
  clear hq
  have hq0 : ¬ j = q := by omega
  have hcp : ¬ j = i := by omega
  have hs1 : (i : Int) ≤ (j : Int) := by omega
  have hs2 : (j : Int) ≤ (j : Int) := by omega
  have hs3 : (j : Int) ≤ (j : Int) := by omega
  have hs4 : (i : Int) ≤ (j : Int) := by omega
  have hq1 : (q : Int) ≤ (j : Int) := by omega
  go_enter Try.func21, Try.ntmps21
  go_wp2_with fail
  refine wp_region_free 6 [0, 1, 2, 3, 4, 5] [] (by kernel_rfl) (by kernel_rfl) ?_
  repeat (refine wpLoose_step rfl (fun K hK => ?_); (try simp only [Oper.quietAt, Oper.quietUpon]); go_simp; (refine hK _ ?_; clear hK K))
  refine wpLoose_nil (wpFresh_nil (fun W4 hE4 _ => ?_))
  simp only [List.drop_succ_cons, List.drop_zero]
  have HE4 := Lib.hid hE4
  clear hE4
  have HG4 := Lib.hid ((ext_block HE4.out (block_lt HG.out)).trans HG.out)
  have HS4 := Lib.hid (show ∀ k u, ((L.drop j).map ptr)[k]? = some u → W4.cell? ((⟨g, 0, none⟩ : Addr).add k) = some u from fun k u hk => by
    rw [List.drop_eq_nil_of_le (by rw [HN.out]; omega)] at hk
    simp at hk)
  have HL := Lib.hid (show ((L.drop j).map ptr).length = j - j by rw [flat_len, List.length_drop, HN.out])
  refine wpList_append_room _ rfl (.tmp 22) (.tmp 25) 45 rfl 51 i0 Try.underlying45 HI.out g i j rfl cur HG4.out ⟨g, 0, none⟩ 0 0 ((L.drop j).map ptr) (by rfl) (by rw [HL.out, HZ1.out, Nat.mul_one]; omega) HS4.out (flat_one _) (by omega) (by rw [HL.out, HZ1.out, HC.out]; omega) q (by omega) ?_
  rw [HZ1.out, Nat.mul_one]
  have HG5 := Lib.hid (setRow_heap W4 g cur (splice cur.toList i ((L.drop j).map ptr)).toArray 51 (0, 0) HG4.out)
  have HU5 := Lib.hid (upd_setRow (w := W4) (g := g) (splice cur.toList i ((L.drop j).map ptr)).toArray)
  obtain ⟨W5, hW5⟩ : ∃ W5, W5 = W4.setRow g (splice cur.toList i ((L.drop j).map ptr)).toArray := ⟨_, rfl⟩
  rw [← hW5] at HG5 HU5 ⊢
  clear hW5
  have HLS := Lib.hid (length_splice cur.toList i ((L.drop j).map ptr) (by rw [HL.out]; simp [HC.out]; omega))
  go_wp2_with (with_reducible refine wpList_haltX1 ?_)
  refine go_on ?_
  refine wpList_clear_any _ rfl (.tmp 31) 45 rfl 51 (.pointer none) Try.underlying45 zeroBk g q (j - q) (j - q) (by rfl) _ 51 HG5.out (by rw [zc_len, List.size_toArray, HLS.out]; simp [HC.out]; omega) (zc_one _) (by omega) ?_
  go_wp2
  go_ret
  refine ⟨_, rfl, row_mk (setRow_heap _ _ _ _ _ _ HG5.out) (by rw [cutAt_len (by omega) (by rw [HN.out]; omega), HN.out]; exact HQ.out) (by omega) HCM.out ?_ ?_, ?_, rfl⟩
  · have h2 : q + (Builtin.zeroCells (Value.pointer none).cells (j - q)).toList.length ≤ (splice cur.toList i ((L.drop j).map ptr)).length := by rw [zc_len, HLS.out]; simp [HC.out]; omega
    try rw [← List.map_drop]
    have h3 : q + (Builtin.zeroCells #[Value.pointer none] (j - q)).toList.length ≤ (splice cur.toList i ((L.drop j).map ptr)).length := h2
    rw [List.size_toArray, List.toList_toArray]
    first | rw [length_splice _ _ _ h2, HLS.out] | rw [length_splice _ _ _ h3, HLS.out]
    simp [HC.out]
  · rw [cutAt_len (by omega) (by rw [HN.out]; omega), HN.out, ← HQ.out]
    try rw [← List.map_drop]
    refine cut_cells cur.toList _ L i j q (by omega) (by rw [HN.out]; omega) (by rw [HN.out]; exact HQ.out) ?_
    rw [List.map_take, ← HT.out, List.take_take, Nat.min_eq_left (by omega)]
  · exact upd_trans (upd_trans (upd_of_ext HE4.out) HU5.out (fun i hi he => by rw [he]; rfl)) (upd_setRow _) (fun i hi he => by rw [he]; rfl)
theorem delete_any (v : Value) (L : List Nat) (i j : Nat) (w : World) (hrow : rowE elBk w v L) (hij : i ≤ j) (hj : j ≤ L.length) (hm : L.length ≤ 1000000) :
    Calls Try.prog 21 #[v, .int .i64 (i : Int), .int .i64 (j : Int)] w (CutPost v L i j w) := by
  rcases Nat.lt_or_eq_of_le hij with hlt | rfl
  · rcases row_is hrow with ⟨_, rfl⟩ | ⟨g, cap, cur, rfl, hg, h1, h2, h3, h4⟩
    · simp at hj; omega
    · by_cases hx : cap = j
      · obtain rfl : L.length = j := by omega
        subst hx
        exact cut_last g i _ cur L w rfl hm hlt h2 hg h4 h3
      · exact cut_some g _ i j cap cur L w rfl hm hlt hj hx h1 h2 hg h4 h3
  · exact cut_none v L i w hrow hj hm
end Go.Proofs.Ytojgbphmkloicaa
