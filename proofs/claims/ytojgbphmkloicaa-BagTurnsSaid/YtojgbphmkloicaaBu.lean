/- slices.Insert on rows of buckets. -/
import Derived.Test.YtojgbphmkloicaaBr
namespace Go.Proofs.Ytojgbphmkloicaa
open Go Go.RowKit Go.Sort
set_option maxHeartbeats 800000

theorem insert_end (v : Value) (L : List Nat) (p nb nc : Nat) (w : World) (hrow : rowE elBk w v L) (hm : L.length ≤ 1000000) (hnb : w.heap[nb]? = some (.cells #[ptr p] 51 (0, 0))) :
    Calls Try.prog 15 #[v, .int .i64 (L.length : Int), .slice (some ⟨nb, 0, none⟩) 1 nc] w (InsPost v L L.length p w) := by
  obtain ⟨i0, hi0, hz0, hz1, hz2⟩ := info_parts infoBk
  have FIN := Lib.hid (show ∀ g c w', w'.ownsRow 0 51 1 (.slice (some ⟨g, 0, none⟩) (L.length + 1) c) (L.length + 1) (L.map ptr ++ [ptr p]) → w.grownBy w' v.ownBlock → (v.ownBlock = some g ∨ g = w.heap.size) → InsPost v L L.length p w (.returned (.slice (some ⟨g, 0, none⟩) (L.length + 1) c)) w' from fun g c w' h1 h2 h3 =>
    ⟨_, rfl, by
      rw [insAt_end]
      show w'.ownsRow 0 51 1 _ (L ++ [p]).length (flatE elBk (L ++ [p]))
      rw [flatBk, List.length_append, List.map_append]
      exact h1, upd_grown h2, by
      rcases h3 with h3 | h3
      · exact .inl h3.symm
      · exact .inr ⟨g, rfl, by omega⟩⟩)
  have hrow' : w.ownsRow 0 51 1 v L.length (L.map ptr) := by rw [← flatBk]; exact hrow
  have hcap : ∀ A n c, v = .slice A n c → n = L.length := fun A n c e => by rw [e] at hrow; exact (rowE_cap hrow).1
  obtain ⟨n, hn⟩ : ∃ n, n = L.length := ⟨_, rfl⟩
  rw [← hn] at hrow' hm FIN hcap ⊢
  have HR := Lib.hid hrow'
  have HB := Lib.hid hnb
  have HI := Lib.hid hi0
  have HZ0 := Lib.hid hz0
  have HZ1 := Lib.hid hz1
  have HZ2 := Lib.hid hz2
  have HONE := Lib.hid (show ∀ u ∈ [ptr p], u.oneCell' = true from flat_one [p])
  clear hn hrow hrow' hnb hi0 hz0 hz1 hz2 hcap
  rcases HR.out.2 with ⟨hv, h0⟩ | ⟨g, cap, cur, hv, _, hg, hle, hcm, hcs, htk⟩
  · subst hv
    subst h0
    rw [show ((0 : Nat) : Int) = 0 from rfl]
    go_enter Try.func15, Try.ntmps15
    go_wp2_with (at_builtin; refine wpList_append_lies _ rfl (.tmp 23) (.tmp 24) 45 rfl 0 51 i0 (.pointer none) 1 8 Try.underlying45 HI.out HZ0.out HZ1.out HZ2.out rfl (by decide) (.slice none 0 0) 0 (L.map ptr) rfl HR.out ⟨nb, 0, none⟩ 1 nc [ptr p] rfl rfl (World.news_of_block HB.out) HONE.out (by decide) (by unfold maxLen; omega) (by omega) (Nat.zero_le _) w.heap.size rfl ?_; intro g' cap' w1 hown1 hgrow1 hlie1 hlt1)
    go_ret
    exact FIN.out _ _ _ (by simpa using hown1) hgrow1 hlie1
  · subst hv
    clear hg hcm hcs htk
    go_enter Try.func15, Try.ntmps15
    go_wp2_with (at_builtin; refine wpList_append_lies _ rfl (.tmp 23) (.tmp 24) 45 rfl 0 51 i0 (.pointer none) 1 8 Try.underlying45 HI.out HZ0.out HZ1.out HZ2.out rfl (by decide) (.slice (some ⟨g, 0, none⟩) n cap) n (L.map ptr) rfl HR.out ⟨nb, 0, none⟩ 1 nc [ptr p] rfl rfl (World.news_of_block HB.out) HONE.out (by decide) (by unfold maxLen; omega) (by omega) (Nat.zero_le _) w.heap.size rfl ?_; intro g' cap' w1 hown1 hgrow1 hlie1 hlt1)
    all_goals (go_ret; exact FIN.out _ _ _ hown1 hgrow1 hlie1)
set_option maxRecDepth 20000 in
theorem insert_grow (g n pos : Nat) (cur : Array Value) (L : List Nat) (p nb nc : Nat) (w : World) (hn : n = L.length) (hm : n ≤ 1000000) (hp : pos < n)
    (hg : w.heap[g]? = some (.cells cur 51 (0, 0))) (htk : cur.toList.take n = L.map ptr)
    (hnb : w.heap[nb]? = some (.cells #[ptr p] 51 (0, 0))) :
    Calls Try.prog 15 #[.slice (some ⟨g, 0, none⟩) n n, .int .i64 (pos : Int), .slice (some ⟨nb, 0, none⟩) 1 nc] w (InsPost (.slice (some ⟨g, 0, none⟩) n n) L pos p w) := by
  obtain ⟨i0, hi0, hz0, hz1, hz2⟩ := info_parts infoBk
  have HN := Lib.hid hn
  have HG := Lib.hid hg
  have HT := Lib.hid htk
  have HB := Lib.hid hnb
  have HI := Lib.hid hi0
  have HZ0 := Lib.hid hz0
  have HZ1 := Lib.hid hz1
  have HZ2 := Lib.hid hz2
  have HONE := Lib.hid (show ∀ u ∈ [ptr p], u.oneCell' = true from flat_one [p])
  have HOLD := Lib.hid (show ∀ j u, ((L.take pos).map ptr)[j]? = some u → w.cell? ((⟨g, 0, none⟩ : Addr).add j) = some u from fun j u hj => by
    rw [List.map_take, ← htk, List.getElem?_take] at hj
    split at hj
    · rw [List.getElem?_take] at hj
      split at hj
      · rw [Addr.add_lit, Nat.zero_add, block_cell hg]; simpa using hj
      · cases hj
    · cases hj)
  have hlt : ((L.take pos).map ptr).length = pos := by rw [flat_len, List.length_take]; omega
  have HLT := Lib.hid hlt
  clear hn hg htk hnb hi0 hz0 hz1 hz2 hlt
  have hnp : ¬ n = pos := by omega
  have hpi : (pos : Int) < (n : Int) := by omega
  have hpe : ((pos : Int) == (n : Int)) = false := by simp; omega
  go_enter Try.func15, Try.ntmps15
  go_wp2_with (at_builtin; refine halt_here ?_)
  refine go_on ?_
  refine wpList_append_zeros _ rfl (.tmp 34) (.tmp 39) 45 3 rfl 51 i0 (.pointer none) .i64 .i64 Try.underlying45 Try.underlying3 HI.out HZ0.out ⟨g, 0, none⟩ pos n rfl ((L.take pos).map ptr) (by rw [HLT.out, HZ1.out]; omega) HOLD.out (n + 1 - pos) (n + 1) _ rfl (by omega) (by omega) (by omega) (by rw [HZ1.out]; decide) (by omega) (by unfold maxLen; omega) (by rw [HZ2.out]; omega) ?_ (by rw [HZ1.out]; rfl)
  intro c cur2 hc1 hc2 hcs2 htk2
  obtain ⟨W, hW⟩ : ∃ W, W = w.drew.alloc (.cells cur2 51) := ⟨_, rfl⟩
  rw [← hW]
  have HE := Lib.hid (show Ext w W by rw [hW]; exact ext_alloc (ext_drew (ext_refl _)) _)
  have HG2 := Lib.hid (show W.heap[w.heap.size]? = some (.cells cur2 51 (0, 0)) by rw [hW]; exact heap_alloc_new w.drew _)
  have HC2 := Lib.hid (show cur2.size = c by have h : cur2.size = c * 1 := hcs2; rw [h, Nat.mul_one])
  have HT2 := Lib.hid htk2
  have HBW := Lib.hid ((ext_block HE.out (block_lt HB.out)).trans HB.out)
  clear hW hcs2 htk2
  have hcp : ¬ c = pos := by omega
  have hcp1 : ¬ c = pos + 1 := by omega
  have hpc : (pos : Int) ≤ (c : Int) := by omega
  have hpn1 : (pos : Int) ≤ (n : Int) + 1 := by omega
  have HMIN := Lib.hid (show [ptr p].length = (Nat.min 1 (n + 1 - pos)) * i0.size by
    have h1 : Nat.min 1 (n + 1 - pos) = 1 := Nat.min_eq_left (by omega)
    rw [HZ1.out, h1, Nat.mul_one]
    simp)
  have HFIT := Lib.hid (show pos + [ptr p].length ≤ cur2.size by rw [HC2.out]; simp; omega)
  go_wp2_with ((with_reducible refine wpList_copy_any _ rfl (.tmp 43) (.tmp 44) 45 45 rfl 51 i0 Try.underlying45 HI.out w.heap.size pos (n + 1 - pos) (c - pos) ⟨nb, 0, none⟩ 1 nc rfl rfl cur2 51 HG2.out [ptr p] HMIN.out (World.news_of_block HBW.out) HFIT.out HONE.out ?_))
  have HG3 := Lib.hid (setRow_heap W w.heap.size cur2 (splice cur2.toList pos [ptr p]).toArray 51 (0, 0) HG2.out)
  have HU3 := Lib.hid (upd_setRow (w := W) (g := w.heap.size) (splice cur2.toList pos [ptr p]).toArray)
  refine wp_gen (fun W3 hW3 => ?_)
  rw [← hW3] at HG3 HU3
  clear hW3
  have hsum : IntKind.i64.wrap ((pos : Int) + 1) = (pos : Int) + 1 := IntWalk.i64_in _ (by omega)
  have hsn : ((pos : Int) + 1).toNat = pos + 1 := by omega
  have hs0 : (0 : Int) ≤ (pos : Int) + 1 := by omega
  have hs1 : (pos : Int) + 1 ≤ (n : Int) + 1 := by omega
  have hs2 : (pos : Int) ≤ (n : Int) := by omega
  refine wp_region_free 8 [0, 1, 2, 3, 4, 5, 6, 7] [] (by kernel_rfl) (by kernel_rfl) ?_
  repeat (refine wpLoose_step rfl (fun K hK => ?_); (try simp only [Oper.quietAt, Oper.quietUpon]); go_simp; (refine hK _ ?_; clear hK K))
  clear hsum hsn
  refine wpLoose_nil (wpFresh_nil (fun W4 hE4 _ => ?_))
  simp only [List.drop_succ_cons, List.drop_zero]
  have HG4 := Lib.hid ((ext_block hE4 (block_lt HG3.out)).trans HG3.out)
  have HU4 := Lib.hid (show Upd (fun _ => False) w W4 from upd_trans (upd_trans (upd_of_ext HE.out) HU3.out (fun i hi he => by omega)) (upd_of_ext (fp := fun _ => False) hE4) (fun _ _ h => h))
  clear hE4
  have HS4 := Lib.hid (show ∀ j u, ((L.drop pos).map ptr)[j]? = some u → W4.cell? ((⟨g, pos, none⟩ : Addr).add j) = some u from fun j u hj => by
    have hgw : g < w.heap.size := block_lt HG.out
    rw [Addr.add_lit, upd_cell HU4.out hgw (fun h => h), block_cell HG.out]
    rw [List.map_drop, ← HT.out, List.getElem?_drop, List.getElem?_take] at hj
    split at hj
    · simpa using hj
    · cases hj)
  have HL := Lib.hid (show ((L.drop pos).map ptr).length = n - pos by rw [flat_len, List.length_drop, ← HN.out])
  have HM := Lib.hid (show Nat.min (n - pos) (n - pos) = n - pos from Nat.min_self _)
  refine wpList_copy_any _ rfl (.tmp 50) (.tmp 53) 45 45 rfl 51 i0 Try.underlying45 HI.out w.heap.size (pos + 1) (n - pos) (c - (pos + 1)) ⟨g, pos, none⟩ (n - pos) (n - pos) rfl rfl _ 51 HG4.out ((L.drop pos).map ptr) (by rw [HZ1.out, HL.out, HM.out]; omega) HS4.out ?_ (flat_one _) ?_
  · rw [HL.out]; simp [splice, HC2.out]; omega
  refine wpList_nil ?_
  go_wp2_with fail
  go_ret
  have hn := HN.out
  subst hn
  have ht2 := HT2.out
  rw [HLT.out] at ht2
  refine ⟨_, rfl, row_mk (setRow_heap _ _ _ _ _ _ HG4.out) (insAt_len (Nat.le_of_lt hp)).symm hc1 hc2 ?_ ?_, ?_, .inr ⟨w.heap.size, rfl, Nat.le_refl _⟩⟩
  · have h1 := length_splice cur2.toList pos [ptr p] (by simp [HC2.out]; omega)
    rw [← List.map_drop, List.size_toArray, length_splice _ _ _ (by rw [HL.out, List.toList_toArray, h1]; simp [HC2.out]; omega), List.toList_toArray, h1]
    simp [HC2.out]
  · rw [insAt_len (Nat.le_of_lt hp)]
    rw [← List.map_drop]
    exact ins_cells cur2.toList L p pos (Nat.le_of_lt hp) ht2
  · exact upd_trans (upd_mono HU4.out (fun _ _ h => h.elim)) (upd_setRow _) (fun i hi he => by omega)
theorem insert_room (g n pos cap : Nat) (cur : Array Value) (L : List Nat) (p nb nc : Nat) (w : World) (hn : n = L.length) (hm : n ≤ 1000000) (hp : pos < n) (hroom : n + 1 ≤ cap) (hcm : cap ≤ maxLen)
    (hg : w.heap[g]? = some (.cells cur 51 (0, 0))) (htk : cur.toList.take n = L.map ptr) (hcs : cur.size = cap)
    (hnb : w.heap[nb]? = some (.cells #[ptr p] 51 (0, 0))) (hne : nb ≠ g) :
    Calls Try.prog 15 #[.slice (some ⟨g, 0, none⟩) n cap, .int .i64 (pos : Int), .slice (some ⟨nb, 0, none⟩) 1 nc] w (InsPost (.slice (some ⟨g, 0, none⟩) n cap) L pos p w) := by
  obtain ⟨i0, hi0, hz0, hz1, hz2⟩ := info_parts infoBk
  have hov : ∀ lb cb, (callFunc 26 #[.slice (some ⟨nb, 0, none⟩) 1 nc, .slice (some ⟨g, pos + 1, none⟩) lb cb]).run Try.prog w = .ok (.value (.bool false)) w := fun lb cb => by
    rw [run_callFunc_extern Try.func26 (by kernel_rfl) (by kernel_rfl) (by kernel_rfl) (e := Extern.SlicesOverlaps.overlaps #[45, 45] #[4]) (by kernel_rfl),
      Lib.run_overlaps_apart w 45 4 51 Try.underlying45 1 (fun w => by rw [show sizeOf 51 = (do let i ← typeInfo 51; pure i.size) from rfl]; simp [typeInfo, hi0, hz1]) ⟨nb, 0, none⟩ ⟨g, pos + 1, none⟩ 1 nc lb cb hne 51 51 1 cur.size (by simp [World.shape?, hnb]) (by simp [World.shape?, hg]) (by rw [hcs]; omega)
        (block_frozen hnb 0) (block_frozen hnb 1)]
    rfl
  have HN := Lib.hid hn
  have HG := Lib.hid hg
  have HT := Lib.hid htk
  have HC := Lib.hid hcs
  have HB := Lib.hid hnb
  have HI := Lib.hid hi0
  have HZ1 := Lib.hid hz1
  have HCM := Lib.hid hcm
  have HONE := Lib.hid (show ∀ u ∈ [ptr p], u.oneCell' = true from flat_one [p])
  clear hn hg htk hcs hnb hi0 hz0 hz1 hz2 hcm
  have hnp : ¬ n = pos := by omega
  have hpi : (pos : Int) < (n : Int) := by omega
  have hpe : ((pos : Int) == (n : Int)) = false := by simp; omega
  have hge : ¬ (cap : Int) < (n : Int) + 1 := by omega
  have hle : (n : Int) + 1 ≤ (cap : Int) := by omega
  have hcp : ¬ cap = pos := by omega
  have hcp1 : ¬ cap = pos + 1 := by omega
  have hpn1 : (pos : Int) ≤ (n : Int) + 1 := by omega
  go_enter Try.func15, Try.ntmps15
  go_wp2_with fail
  clear hov
  have hsum : IntKind.i64.wrap ((pos : Int) + 1) = (pos : Int) + 1 := IntWalk.i64_in _ (by omega)
  have hsn : ((pos : Int) + 1).toNat = pos + 1 := by omega
  have hs0 : (0 : Int) ≤ (pos : Int) + 1 := by omega
  have hs1 : (pos : Int) + 1 ≤ (n : Int) + 1 := by omega
  have hs2 : (pos : Int) ≤ (n : Int) := by omega
  refine wp_region_free 8 [0, 1, 2, 3, 4, 5, 6, 7] [] (by kernel_rfl) (by kernel_rfl) ?_
  repeat (refine wpLoose_step rfl (fun K hK => ?_); (try simp only [Oper.quietAt, Oper.quietUpon]); go_simp; (refine hK _ ?_; clear hK K))
  clear hsum hsn
  refine wpLoose_nil (wpFresh_nil (fun W4 hE4 _ => ?_))
  simp only [List.drop_succ_cons, List.drop_zero]
  have HG4 := Lib.hid ((ext_block hE4 (block_lt HG.out)).trans HG.out)
  have HB4 := Lib.hid ((ext_block hE4 (block_lt HB.out)).trans HB.out)
  have HE4 := Lib.hid hE4
  clear hE4
  have HS4 := Lib.hid (show ∀ j u, ((L.drop pos).map ptr)[j]? = some u → W4.cell? ((⟨g, pos, none⟩ : Addr).add j) = some u from fun j u hj => by
    rw [Addr.add_lit, block_cell HG4.out]
    rw [List.map_drop, ← HT.out, List.getElem?_drop, List.getElem?_take] at hj
    split at hj
    · simpa using hj
    · cases hj)
  have HL := Lib.hid (show ((L.drop pos).map ptr).length = n - pos by rw [flat_len, List.length_drop, ← HN.out])
  have HM := Lib.hid (show Nat.min (n + 1 - pos) (n - pos) = n - pos from Nat.min_eq_right (by omega))
  refine wpList_copy_any _ rfl (.tmp 73) (.tmp 76) 45 45 rfl 51 i0 Try.underlying45 HI.out g (pos + 1) (n - pos) (cap - (pos + 1)) ⟨g, pos, none⟩ (n + 1 - pos) (cap - pos) rfl rfl _ 51 HG4.out ((L.drop pos).map ptr) (by rw [HZ1.out, HL.out, HM.out]; omega) HS4.out ?_ (flat_one _) ?_
  · rw [HL.out, HC.out]; omega
  have HG5 := Lib.hid (setRow_heap W4 g cur (splice cur.toList (pos + 1) ((L.drop pos).map ptr)).toArray 51 (0, 0) HG4.out)
  have HU5 := Lib.hid (upd_setRow (w := W4) (g := g) (splice cur.toList (pos + 1) ((L.drop pos).map ptr)).toArray)
  have HB5 := Lib.hid ((HU5.out.block nb (block_lt HB4.out) hne).trans HB4.out)
  refine wpList_nil ?_
  obtain ⟨W5, hW5⟩ : ∃ W5, W5 = W4.setRow g (splice cur.toList (pos + 1) ((L.drop pos).map ptr)).toArray := ⟨_, rfl⟩
  rw [← hW5] at HG5 HU5 HB5 ⊢
  clear hW5
  have HLS := Lib.hid (length_splice cur.toList (pos + 1) ((L.drop pos).map ptr) (by rw [HL.out]; simp [HC.out]; omega))
  have HMIN := Lib.hid (show [ptr p].length = (Nat.min 1 (n + 1 - pos)) * i0.size by
    have h1 : Nat.min 1 (n + 1 - pos) = 1 := Nat.min_eq_left (by omega)
    rw [HZ1.out, h1, Nat.mul_one]
    simp)
  have HFIT := Lib.hid (show pos + [ptr p].length ≤ (splice cur.toList (pos + 1) ((L.drop pos).map ptr)).toArray.size by rw [List.size_toArray, HLS.out]; simp [HC.out]; omega)
  go_wp2_with ((with_reducible refine wpList_copy_any _ rfl (.tmp 80) (.tmp 81) 45 45 rfl 51 i0 Try.underlying45 HI.out g pos (n + 1 - pos) (cap - pos) ⟨nb, 0, none⟩ 1 nc rfl rfl (splice cur.toList (pos + 1) ((L.drop pos).map ptr)).toArray 51 HG5.out [ptr p] HMIN.out (World.news_of_block HB5.out) HFIT.out HONE.out ?_))
  go_ret
  have hn := HN.out
  subst hn
  refine ⟨_, rfl, row_mk (setRow_heap _ _ _ _ _ _ HG5.out) (insAt_len (Nat.le_of_lt hp)).symm hroom HCM.out ?_ ?_, ?_, .inl rfl⟩
  · have h2 := HFIT.out
    rw [List.size_toArray] at h2
    try rw [← List.map_drop]
    rw [List.size_toArray, List.toList_toArray, length_splice _ _ _ h2, HLS.out]
    simp [HC.out]
  · rw [insAt_len (Nat.le_of_lt hp)]
    try rw [← List.map_drop]
    refine ins_cells' cur.toList L p pos (Nat.le_of_lt hp) (by simp [HC.out]; omega) ?_
    rw [List.map_take, ← HT.out, List.take_take, Nat.min_eq_left (by omega)]
  · exact upd_trans (upd_trans (upd_of_ext HE4.out) HU5.out (fun i hi he => by rw [he]; rfl)) (upd_setRow _) (fun i hi he => by rw [he]; rfl)
theorem insert_any (v : Value) (L : List Nat) (pos p nb nc : Nat) (w : World) (hrow : rowE elBk w v L) (hm : L.length ≤ 1000000) (hp : pos ≤ L.length) (hnb : w.heap[nb]? = some (.cells #[ptr p] 51 (0, 0))) (hne : v.ownBlock ≠ some nb) :
    Calls Try.prog 15 #[v, .int .i64 (pos : Int), .slice (some ⟨nb, 0, none⟩) 1 nc] w (InsPost v L pos p w) := by
  by_cases he : pos = L.length
  · subst he
    exact insert_end v L p nb nc w hrow hm hnb
  · rcases row_is hrow with ⟨_, rfl⟩ | ⟨g, cap, cur, rfl, hg, h1, h2, h3, h4⟩
    · simp at hp; simp [hp] at he
    · have hne' : g ≠ nb := fun h => hne (by rw [h]; rfl)
      by_cases hr : L.length + 1 ≤ cap
      · exact insert_room g _ pos cap cur L p nb nc w rfl hm (by omega) hr h2 hg h4 h3 hnb (Ne.symm hne')
      · obtain rfl : cap = L.length := by omega
        exact insert_grow g _ pos cur L p nb nc w rfl hm (by omega) hg h4 hnb
end Go.Proofs.Ytojgbphmkloicaa
