/- slices.Delete, slices.Clone on rows of keys. -/
import Derived.Test.YtfaegjlolhpofaaDoorWf
namespace Go.Proofs.YtfaegjlolhpofaaDoor
open Go.RowKit Go.Sort
set_option maxHeartbeats 800000

def DelPost (v : Value) (ks : List Key) (pos : Nat) (w : World) (e : Ending) (w' : World) : Prop :=
  ∃ v', e = .returned v' ∧ rowOf w' v' (delAt ks pos) ∧ Upd (fun b => v.ownBlock = some b) w w' ∧ v'.ownBlock = v.ownBlock

theorem wpList_haltX {P : Program} {ops : Array Oper} {Q : Exit → Act → World → Prop} {op : Op} {t : TypeId} {p : String} {af : Array Edge} {rest : List Oper} {a : Act} {w : World} (h : Hid (wpList P ops Q (⟨none, op, t, p, af, none⟩ :: rest) a w)) : wpList P ops Q (⟨none, op, t, p, af, none⟩ :: rest) a w := h
theorem zero25 : ∀ w, (zeroValue 25).run Tryd.prog w = .ok (K3 0 0 0) w := fun w => by
  obtain ⟨i0, hi0, hz0, hz1, hz2⟩ := info_parts info25
  simp [zeroValue, typeInfo, hi0, hz0]

theorem zc1 : (Builtin.zeroCells (K3 0 0 0).cells 1).toList = [.int .i64 0, .int .i64 0, .int .i64 0] := by kernel_rfl

theorem zc2 : (Builtin.zeroCells #[Value.int IntKind.i64 0, Value.int IntKind.i64 0, Value.int IntKind.i64 0] 1).toList = [.int .i64 0, .int .i64 0, .int .i64 0] := by kernel_rfl

theorem delete_mid (g q pos cap : Nat) (cur : Array Value) (ks : List Key) (w : World) (hn : ks.length = q + 1) (hm : q + 1 ≤ 1000000) (hp : pos ≤ q) (hroom : q + 1 ≤ cap) (hx : ¬ cap = pos + 1) (hcm : cap ≤ maxLen)
    (hg : w.heap[g]? = some (.cells cur 25 (0, 0))) (htk : cur.toList.take ((q + 1) * 3) = flat ks) (hcs : cur.size = cap * 3) :
    Calls Tryd.prog 33 #[.slice (some ⟨g, 0, none⟩) (q + 1) cap, .int .i64 pos, .int .i64 ((pos : Int) + 1)] w (DelPost (.slice (some ⟨g, 0, none⟩) (q + 1) cap) ks pos w) := by
  obtain ⟨i0, hi0, hz0, hz1, hz2⟩ := info_parts info25
  have HN := Lib.hid hn
  have HG := Lib.hid hg
  have HT := Lib.hid htk
  have HC := Lib.hid hcs
  have HI := Lib.hid hi0
  have HZ1 := Lib.hid hz1
  have HCM := Lib.hid hcm
  clear hn hg htk hcs hi0 hz0 hz1 hz2 hcm
  have hpe : ((pos : Int) == (pos : Int) + 1) = false := by simp; omega
  have hq0 : ¬ cap = q := by omega
  have hcp : ¬ cap = pos := by omega
  have hsum : IntKind.i64.wrap ((pos : Int) + 1) = (pos : Int) + 1 := IntWalk.i64_in _ (by omega)
  have hsn : ((pos : Int) + 1).toNat = pos + 1 := by omega
  have hs0 : (0 : Int) ≤ (pos : Int) + 1 := by omega
  have hs1 : (pos : Int) + 1 ≤ (q : Int) + 1 := by omega
  have hs2 : (pos : Int) ≤ (q : Int) := by omega
  have hs3 : (q : Int) + 1 ≤ (cap : Int) := by omega
  have hs4 : (pos : Int) ≤ (cap : Int) := by omega
  go_enter Tryd.func33, Tryd.ntmps33
  go_wp2_with fail
  refine wp_region_free 6 [0, 1, 2, 3, 4, 5] [] (by kernel_rfl) (by kernel_rfl) ?_
  repeat (refine wpLoose_step rfl (fun K hK => ?_); (try simp only [Oper.quietAt, Oper.quietUpon]); go_simp; (refine hK _ ?_; clear hK K))
  refine wpLoose_nil (wpFresh_nil (fun W4 hE4 _ => ?_))
  simp only [List.drop_succ_cons, List.drop_zero]
  have HE4 := Lib.hid hE4
  clear hE4 hsum hsn
  have HG4 := Lib.hid ((ext_block HE4.out (block_lt HG.out)).trans HG.out)
  have HS4 := Lib.hid (show ∀ j u, (flat (ks.drop (pos + 1)))[j]? = some u → W4.cell? ((⟨g, (pos + 1) * 3, none⟩ : Addr).add j) = some u from fun j u hj => by
    rw [Addr.add_lit, block_cell HG4.out]
    rw [flat_drop, ← HT.out, List.getElem?_drop, List.getElem?_take] at hj
    split at hj
    · simpa using hj
    · cases hj)
  have HL := Lib.hid (show (flat (ks.drop (pos + 1))).length = (q - pos) * 3 by rw [flat_length, List.length_drop, HN.out]; omega)
  refine wpList_append_room _ rfl (.tmp 22) (.tmp 25) 62 rfl 25 i0 Tryd.underlying62 HI.out g pos cap rfl cur HG4.out ⟨g, (pos + 1) * 3, none⟩ (q - pos) (cap - (pos + 1)) (flat (ks.drop (pos + 1))) (by rfl) (by rw [HL.out, HZ1.out]) HS4.out (flat_one _) (by omega) (by rw [HL.out, HZ1.out, HC.out]; omega) q (by omega) ?_
  rw [HZ1.out]
  have HG5 := Lib.hid (setRow_heap W4 g cur (splice cur.toList (pos * 3) (flat (ks.drop (pos + 1)))).toArray 25 (0, 0) HG4.out)
  have HU5 := Lib.hid (upd_setRow (w := W4) (g := g) (splice cur.toList (pos * 3) (flat (ks.drop (pos + 1)))).toArray)
  obtain ⟨W5, hW5⟩ : ∃ W5, W5 = W4.setRow g (splice cur.toList (pos * 3) (flat (ks.drop (pos + 1)))).toArray := ⟨_, rfl⟩
  rw [← hW5] at HG5 HU5 ⊢
  clear hW5
  have HLS := Lib.hid (length_splice cur.toList (pos * 3) (flat (ks.drop (pos + 1))) (by rw [HL.out]; simp [HC.out]; omega))
  have hq1 : (q : Int) ≤ (q : Int) + 1 := by omega
  go_wp2_with (with_reducible refine wpList_haltX ?_)
  refine go_on ?_
  refine wpList_clear_any _ rfl (.tmp 31) 62 rfl 25 (K3 0 0 0) Tryd.underlying62 zero25 g (q * 3) 1 (cap - q) (by rfl) _ 25 HG5.out (by rw [zc1, List.size_toArray, HLS.out]; simp [HC.out]; omega) (by rw [zc1]; intro v hv; simp at hv; subst hv; rfl) (by omega) ?_
  go_wp2
  go_ret
  refine ⟨_, rfl, row_mk (setRow_heap _ _ _ _ _ _ HG5.out) (by rw [delAt_length (by rw [HN.out]; omega), HN.out]; omega) (by omega) HCM.out ?_ ?_, ?_, rfl⟩
  · rw [List.size_toArray, length_splice _ _ _ (by rw [zc2, HLS.out]; simp [HC.out] <;> omega), HLS.out]
    simp [HC.out]
  · rw [delAt_length (by rw [HN.out]; omega), show ks.length - 1 = q by rw [HN.out]; omega]
    refine del_cells cur.toList _ ks pos q (by rw [HN.out]; omega) HN.out (by rw [HN.out]; simp [HC.out]; omega) ?_
    rw [flat_take, ← HT.out, List.take_take, Nat.min_eq_left (by omega)]
  · exact upd_trans (upd_trans (upd_of_ext HE4.out) HU5.out (fun i hi he => by rw [he]; rfl)) (upd_setRow _) (fun i hi he => by rw [he]; rfl)

theorem delete_last (g pos : Nat) (cur : Array Value) (ks : List Key) (w : World) (hn : ks.length = pos + 1) (hm : pos + 1 ≤ 1000000) (hcm : pos + 1 ≤ maxLen)
    (hg : w.heap[g]? = some (.cells cur 25 (0, 0))) (htk : cur.toList.take ((pos + 1) * 3) = flat ks) (hcs : cur.size = (pos + 1) * 3) :
    Calls Tryd.prog 33 #[.slice (some ⟨g, 0, none⟩) (pos + 1) (pos + 1), .int .i64 pos, .int .i64 ((pos : Int) + 1)] w (DelPost (.slice (some ⟨g, 0, none⟩) (pos + 1) (pos + 1)) ks pos w) := by
  obtain ⟨i0, hi0, hz0, hz1, hz2⟩ := info_parts info25
  have HN := Lib.hid hn
  have HG := Lib.hid hg
  have HT := Lib.hid htk
  have HC := Lib.hid hcs
  have HI := Lib.hid hi0
  have HZ1 := Lib.hid hz1
  have HCM := Lib.hid hcm
  clear hn hg htk hcs hi0 hz0 hz1 hz2 hcm
  have hpe : ((pos : Int) == (pos : Int) + 1) = false := by simp; omega
  have hq0 : ¬ (pos + 1) = pos := by omega
  have hcp : ¬ (pos + 1) = pos := by omega
  have hsum : IntKind.i64.wrap ((pos : Int) + 1) = (pos : Int) + 1 := IntWalk.i64_in _ (by omega)
  have hsn : ((pos : Int) + 1).toNat = pos + 1 := by omega
  have hs0 : (0 : Int) ≤ (pos : Int) + 1 := by omega
  have hs1 : (pos : Int) + 1 ≤ (pos : Int) + 1 := by omega
  have hs2 : (pos : Int) ≤ (pos : Int) := by omega
  have hs3 : (pos : Int) + 1 ≤ ((pos + 1) : Int) := by omega
  have hs4 : (pos : Int) ≤ ((pos + 1) : Int) := by omega
  go_enter Tryd.func33, Tryd.ntmps33
  go_wp2_with fail
  refine wp_region_free 6 [0, 1, 2, 3, 4, 5] [] (by kernel_rfl) (by kernel_rfl) ?_
  repeat (refine wpLoose_step rfl (fun K hK => ?_); (try simp only [Oper.quietAt, Oper.quietUpon]); go_simp; (refine hK _ ?_; clear hK K))
  refine wpLoose_nil (wpFresh_nil (fun W4 hE4 _ => ?_))
  simp only [List.drop_succ_cons, List.drop_zero]
  have HE4 := Lib.hid hE4
  clear hE4 hsum hsn
  have HG4 := Lib.hid ((ext_block HE4.out (block_lt HG.out)).trans HG.out)
  have HS4 := Lib.hid (show ∀ j u, (flat (ks.drop (pos + 1)))[j]? = some u → W4.cell? ((⟨g, 0, none⟩ : Addr).add j) = some u from fun j u hj => by
    rw [List.drop_eq_nil_of_le (by rw [HN.out]; omega)] at hj
    simp [flat] at hj)
  have HL := Lib.hid (show (flat (ks.drop (pos + 1))).length = 0 by rw [flat_length, List.length_drop, HN.out]; omega)
  refine wpList_append_room _ rfl (.tmp 22) (.tmp 25) 62 rfl 25 i0 Tryd.underlying62 HI.out g pos (pos + 1) rfl cur HG4.out ⟨g, 0, none⟩ 0 0 (flat (ks.drop (pos + 1))) (by rfl) (by rw [HL.out, HZ1.out]) HS4.out (flat_one _) (by omega) (by rw [HL.out, HZ1.out, HC.out]; omega) pos (by omega) ?_
  rw [HZ1.out]
  have HG5 := Lib.hid (setRow_heap W4 g cur (splice cur.toList (pos * 3) (flat (ks.drop (pos + 1)))).toArray 25 (0, 0) HG4.out)
  have HU5 := Lib.hid (upd_setRow (w := W4) (g := g) (splice cur.toList (pos * 3) (flat (ks.drop (pos + 1)))).toArray)
  obtain ⟨W5, hW5⟩ : ∃ W5, W5 = W4.setRow g (splice cur.toList (pos * 3) (flat (ks.drop (pos + 1)))).toArray := ⟨_, rfl⟩
  rw [← hW5] at HG5 HU5 ⊢
  clear hW5
  have HLS := Lib.hid (length_splice cur.toList (pos * 3) (flat (ks.drop (pos + 1))) (by rw [HL.out]; simp [HC.out]; omega))
  have hq1 : (pos : Int) ≤ (pos : Int) + 1 := by omega
  go_wp2_with (with_reducible refine wpList_haltX ?_)
  refine go_on ?_
  refine wpList_clear_any _ rfl (.tmp 31) 62 rfl 25 (K3 0 0 0) Tryd.underlying62 zero25 g (pos * 3) 1 ((pos + 1) - pos) (by simp [Act.eval]) _ 25 HG5.out (by rw [zc1, List.size_toArray, HLS.out]; simp [HC.out]; omega) (by rw [zc1]; intro v hv; simp at hv; subst hv; rfl) (by omega) ?_
  go_wp2
  go_ret
  refine ⟨_, rfl, row_mk (setRow_heap _ _ _ _ _ _ HG5.out) (by rw [delAt_length (by rw [HN.out]; omega), HN.out]; omega) (by omega) HCM.out ?_ ?_, ?_, rfl⟩
  · rw [List.size_toArray, length_splice _ _ _ (by rw [zc2, HLS.out]; simp [HC.out] <;> omega), HLS.out]
    simp [HC.out]
  · rw [delAt_length (by rw [HN.out]; omega), show ks.length - 1 = pos by rw [HN.out]; omega]
    refine del_cells cur.toList _ ks pos pos (by rw [HN.out]; omega) HN.out (by rw [HN.out]; simp [HC.out]) ?_
    rw [flat_take, ← HT.out, List.take_take, Nat.min_eq_left (by omega)]
  · exact upd_trans (upd_trans (upd_of_ext HE4.out) HU5.out (fun i hi he => by rw [he]; rfl)) (upd_setRow _) (fun i hi he => by rw [he]; rfl)

theorem delete_any (v : Value) (ks : List Key) (pos : Nat) (w : World) (hrow : rowOf w v ks) (hm : ks.length ≤ 1000000) (hp : pos < ks.length) :
    Calls Tryd.prog 33 #[v, .int .i64 pos, .int .i64 ((pos : Int) + 1)] w (DelPost v ks pos w) := by
  rcases row_cases hrow with ⟨_, rfl⟩ | ⟨g, cap, cur, rfl, hg, h1, h2, h3, h4⟩
  · simp at hp
  · obtain ⟨q, hq⟩ : ∃ q, ks.length = q + 1 := ⟨ks.length - 1, by omega⟩
    rw [hq] at h1 h4 hm hp ⊢
    by_cases hx : cap = pos + 1
    · subst hx
      obtain rfl : q = pos := by omega
      exact delete_last g q cur ks w hq hm h2 hg h4 h3
    · exact delete_mid g q pos cap cur ks w hq hm (by omega) h1 hx h2 hg h4 h3

theorem insert_any (v : Value) (ks : List Key) (pos : Nat) (k : Key) (nb nc : Nat) (w : World) (hrow : rowOf w v ks) (hm : ks.length ≤ 1000000) (hp : pos ≤ ks.length)
    (hnb : w.heap[nb]? = some (.cells (key3 k) 25 (0, 0))) (hne : v.ownBlock ≠ some nb) :
    Calls Tryd.prog 31 #[v, .int .i64 pos, .slice (some ⟨nb, 0, none⟩) 1 nc] w (InsPost v ks pos k w) := by
  by_cases he : pos = ks.length
  · subst he
    exact insert_end v ks k nb nc w hrow hm hnb
  · rcases row_cases hrow with ⟨_, rfl⟩ | ⟨g, cap, cur, rfl, hg, h1, h2, h3, h4⟩
    · simp at hp; simp [hp] at he
    · have hne' : g ≠ nb := fun h => hne (by rw [h]; rfl)
      by_cases hr : ks.length + 1 ≤ cap
      · exact insert_room g _ pos cap cur ks k nb nc w rfl hm (by omega) hr h2 hg h4 h3 hnb (Ne.symm hne')
      · obtain rfl : cap = ks.length := by omega
        exact insert_grow g _ pos cur ks k nb nc w rfl hm (by omega) hg h4 h3 hnb hne'

def ClonePost (ks : List Key) (w : World) (e : Ending) (w' : World) : Prop :=
  ∃ v', e = .returned v' ∧ rowOf w' v' ks ∧ Ext w w' ∧ (∀ g, v'.ownBlock = some g → w.heap.size ≤ g)

theorem owns_base {w : World} {b b' : Nat} {e : TypeId} {size : Nat} {v : Value} {n : Nat} {xs : List Value} (h : w.ownsRow b e size v n xs) (hb : b' ≤ b) : w.ownsRow b' e size v n xs := by
  refine ⟨h.1, ?_⟩
  rcases h.2 with hh | ⟨g, cap, cur, h1, h2, h3⟩
  · exact .inl hh
  · exact .inr ⟨g, cap, cur, h1, Nat.le_trans hb h2, h3⟩

theorem clone_any (v : Value) (ks : List Key) (w : World) (hrow : rowOf w v ks) (hm : ks.length ≤ 1000000) : Calls Tryd.prog 35 #[v] w (ClonePost ks w) := by
  obtain ⟨i0, hi0, hz0, hz1, hz2⟩ := info_parts info25
  have HI := Lib.hid hi0
  have HZ0 := Lib.hid hz0
  have HZ1 := Lib.hid hz1
  have HZ2 := Lib.hid hz2
  clear hi0 hz0 hz1 hz2
  rcases row_cases hrow with ⟨rfl, rfl⟩ | ⟨g, cap, cur, rfl, hg, h1, h2, h3, h4⟩
  · clear hrow
    have hnil := fun (w : World) => Lib.run_eql_slice_nil (P := Tryd.prog) w 62 25 none 0 0 0 0 Tryd.underlying62
    go_enter Tryd.func35, Tryd.ntmps35
    go_wp2_with fail
    go_ret
    exact ⟨_, rfl, World.ownsRow_nil _ _ _ _, ext_refl _, fun g h => by cases h⟩
  · obtain ⟨n, hn⟩ : ∃ n, n = ks.length := ⟨_, rfl⟩
    rw [← hn] at hrow hm h1 h4 ⊢
    have HN := Lib.hid hn
    have HG := Lib.hid hg
    have HT := Lib.hid h4
    clear hrow hn hg h4 h3 h2
    have hnil := fun (w : World) => Lib.run_eql_slice_nil (P := Tryd.prog) w 62 25 (some ⟨g, 0, none⟩) n cap 0 0 Tryd.underlying62
    go_enter Tryd.func35, Tryd.ntmps35
    go_wp2_with (at_builtin; refine halt_here ?_)
    refine go_on ?_
    refine wpList_append_own _ rfl (.tmp 5) (.tmp 6) 62 rfl w.heap.size 25 i0 (K3 0 0 0) 3 24 Tryd.underlying62 HI.out HZ0.out HZ1.out HZ2.out rfl (by decide) (.slice (some ⟨w.heap.size, 0, none⟩) 0 0) 0 [] rfl (World.ownsRow_made w #[] 0 (Nat.le_refl _) (by unfold maxLen; omega) rfl) ⟨g, 0, none⟩ n cap (flat ks) rfl (by rw [flat_length, HN.out]) ?_ (flat_one _) (by unfold maxLen; omega) (by omega) (by simp) ?_
    · intro j u hj
      rw [Addr.add_lit, Nat.zero_add, World.cell?_alloc_lt _ _ _ (block_lt HG.out), block_cell HG.out]
      rw [← HT.out, List.getElem?_take] at hj
      split at hj
      · simpa using hj
      · cases hj
    intro v' w' hown hgrow hiff
    have HO := Lib.hid hown
    have HG' := Lib.hid hgrow
    clear hown hgrow hiff
    go_wp2
    go_ret
    refine ⟨_, rfl, ?_, ?_, fun g h => ((World.ownsRow.lt HO.out) g h).1⟩
    · have := owns_base HO.out (Nat.zero_le _)
      rw [Nat.zero_add, List.nil_append, HN.out] at this
      exact this
    · refine ext_of_upd (upd_trans (upd_of_ext (ext_alloc (ext_refl w) _)) (upd_grown HG'.out) (fun i hi he => ?_))
      simp [Value.ownBlock] at he
      omega
end Go.Proofs.YtfaegjlolhpofaaDoor
