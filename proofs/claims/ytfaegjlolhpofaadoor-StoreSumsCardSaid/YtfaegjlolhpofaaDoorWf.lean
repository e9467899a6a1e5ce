/- slices.Insert where there is room. -/
import Derived.Test.YtfaegjlolhpofaaDoorWe
namespace Go.Proofs.YtfaegjlolhpofaaDoor
open Go.RowKit Go.Sort
set_option maxHeartbeats 800000

theorem insert_room (g n pos cap : Nat) (cur : Array Value) (ks : List Key) (k : Key) (nb nc : Nat) (w : World) (hn : n = ks.length) (hm : n ≤ 1000000) (hp : pos < n) (hroom : n + 1 ≤ cap) (hcm : cap ≤ maxLen)
    (hg : w.heap[g]? = some (.cells cur 25 (0, 0))) (htk : cur.toList.take (n * 3) = flat ks) (hcs : cur.size = cap * 3)
    (hnb : w.heap[nb]? = some (.cells (key3 k) 25 (0, 0))) (hne : nb ≠ g) :
    Calls Tryd.prog 31 #[.slice (some ⟨g, 0, none⟩) n cap, .int .i64 pos, .slice (some ⟨nb, 0, none⟩) 1 nc] w (InsPost (.slice (some ⟨g, 0, none⟩) n cap) ks pos k w) := by
  obtain ⟨i0, hi0, hz0, hz1, hz2⟩ := info_parts info25
  have hov : ∀ lb cb, (callFunc 40 #[.slice (some ⟨nb, 0, none⟩) 1 nc, .slice (some ⟨g, (pos + 1) * 3, none⟩) lb cb]).run Tryd.prog w = .ok (.value (.bool false)) w := fun lb cb => by
    rw [run_callFunc_extern Tryd.func40 (by kernel_rfl) (by kernel_rfl) (by kernel_rfl) (e := Extern.SlicesOverlaps.overlaps #[62, 62] #[4]) (by kernel_rfl),
      Lib.run_overlaps_apart w 62 4 25 Tryd.underlying62 3 (fun w => by rw [show sizeOf 25 = (do let i ← typeInfo 25; pure i.size) from rfl]; simp [typeInfo, hi0, hz1]) ⟨nb, 0, none⟩ ⟨g, (pos + 1) * 3, none⟩ 1 nc lb cb hne 25 25 3 cur.size (by simp [World.shape?, hnb, key3]) (by simp [World.shape?, hg]) (by rw [hcs]; omega)
        (block_frozen hnb 0) (block_frozen hnb 3)]
    rfl
  have HN := Lib.hid hn
  have HG := Lib.hid hg
  have HT := Lib.hid htk
  have HC := Lib.hid hcs
  have HB := Lib.hid hnb
  have HI := Lib.hid hi0
  have HZ0 := Lib.hid hz0
  have HZ1 := Lib.hid hz1
  have HZ2 := Lib.hid hz2
  have HCM := Lib.hid hcm
  clear hn hg htk hcs hnb hi0 hz0 hz1 hz2 hcm
  have hnp : ¬ n = pos := by omega
  have hpi : (pos : Int) < (n : Int) := by omega
  have hpe : ((pos : Int) == (n : Int)) = false := by simp; omega
  have hge : ¬ (cap : Int) < (n : Int) + 1 := by omega
  have hle : (n : Int) + 1 ≤ (cap : Int) := by omega
  have hcp : ¬ cap = pos := by omega
  have hcp1 : ¬ cap = pos + 1 := by omega
  have hpn1 : (pos : Int) ≤ (n : Int) + 1 := by omega
  go_enter Tryd.func31, Tryd.ntmps31
  go_wp2_with fail
  clear hov
  have hsum : IntKind.i64.wrap ((pos : Int) + 1) = (pos : Int) + 1 := IntWalk.i64_in _ (by omega)
  have hsn : ((pos : Int) + 1).toNat = pos + 1 := by omega
  have hs0 : (0 : Int) ≤ (pos : Int) + 1 := by omega
  have hs1 : (pos : Int) + 1 ≤ (n : Int) + 1 := by omega
  have hs2 : (pos : Int) ≤ (n : Int) := by omega
  refine wp_region_free 8 [0, 1, 2, 3, 4, 5, 6, 7] [] (by kernel_rfl) (by kernel_rfl) ?_
  repeat (refine wpLoose_step rfl (fun K hK => ?_); (try simp only [Oper.quietAt, Oper.quietUpon]); go_simp; (refine hK _ ?_; clear hK K))
  clear hsum hsn
  refine wpLoose_nil (wpFresh_nil (fun W4 hE4 _ => ?_))
  simp only [List.drop_succ_cons, List.drop_zero]
  have HG4 := Lib.hid ((ext_block hE4 (block_lt HG.out)).trans HG.out)
  have HB4 := Lib.hid ((ext_block hE4 (block_lt HB.out)).trans HB.out)
  have HE4 := Lib.hid hE4
  clear hE4
  have HS4 := Lib.hid (show ∀ j u, (flat (ks.drop pos))[j]? = some u → W4.cell? ((⟨g, pos * 3, none⟩ : Addr).add j) = some u from fun j u hj => by
    rw [Addr.add_lit, block_cell HG4.out]
    rw [flat_drop, ← HT.out, List.getElem?_drop, List.getElem?_take] at hj
    split at hj
    · simpa using hj
    · cases hj)
  have HL := Lib.hid (show (flat (ks.drop pos)).length = (n - pos) * 3 by rw [flat_length, List.length_drop, ← HN.out])
  have HM := Lib.hid (show Nat.min (n + 1 - pos) (n - pos) = n - pos from Nat.min_eq_right (by omega))
  refine wpList_copy_any _ rfl (.tmp 73) (.tmp 76) 62 62 rfl 25 i0 Tryd.underlying62 HI.out g ((pos + 1) * 3) (n - pos) (cap - (pos + 1)) ⟨g, pos * 3, none⟩ (n + 1 - pos) (cap - pos) rfl rfl _ 25 HG4.out (flat (ks.drop pos)) (by rw [HZ1.out, HL.out, HM.out]) HS4.out ?_ (flat_one _) ?_
  · rw [HL.out, HC.out]; omega
  have HG5 := Lib.hid (setRow_heap W4 g cur (splice cur.toList ((pos + 1) * 3) (flat (ks.drop pos))).toArray 25 (0, 0) HG4.out)
  have HU5 := Lib.hid (upd_setRow (w := W4) (g := g) (splice cur.toList ((pos + 1) * 3) (flat (ks.drop pos))).toArray)
  have HB5 := Lib.hid ((HU5.out.block nb (block_lt HB4.out) hne).trans HB4.out)
  refine wpList_nil ?_
  obtain ⟨W5, hW5⟩ : ∃ W5, W5 = W4.setRow g (splice cur.toList ((pos + 1) * 3) (flat (ks.drop pos))).toArray := ⟨_, rfl⟩
  rw [← hW5] at HG5 HU5 HB5 ⊢
  clear hW5
  have HLS := Lib.hid (length_splice cur.toList ((pos + 1) * 3) (flat (ks.drop pos)) (by rw [HL.out]; simp [HC.out]; omega))
  go_wp2_with ((with_reducible refine wpList_copy_any _ rfl (.tmp 80) (.tmp 81) 62 62 rfl 25 i0 Tryd.underlying62 HI.out g (pos * 3) (n + 1 - pos) (cap - pos) ⟨nb, 0, none⟩ 1 nc rfl rfl (splice cur.toList ((pos + 1) * 3) (flat (ks.drop pos))).toArray 25 HG5.out (key3 k).toList (by rw [HZ1.out, key3_length, show Nat.min 1 (n + 1 - pos) = 1 from Nat.min_eq_left (by omega)]) (World.news_of_block HB5.out) (by rw [key3_length, List.size_toArray, HLS.out]; simp [HC.out]; omega) (key3_one k) ?_))
  go_ret
  have hn := HN.out
  subst hn
  refine ⟨_, rfl, row_mk (setRow_heap _ _ _ _ _ _ HG5.out) (insAt_length (Nat.le_of_lt hp)).symm hroom HCM.out ?_ ?_, ?_, .inl rfl⟩
  · rw [List.size_toArray, length_splice _ _ _ (by rw [key3_length, HLS.out]; simp [HC.out]; omega), HLS.out]
    simp [HC.out]
  · rw [insAt_length (Nat.le_of_lt hp)]
    rw [show (pos + 1) * 3 = pos * 3 + 3 by omega]
    refine ins_cells' cur.toList ks k pos (Nat.le_of_lt hp) (by simp [HC.out]; omega) ?_
    rw [flat_take, ← HT.out, List.take_take, Nat.min_eq_left (by omega)]
  · exact upd_trans (upd_trans (upd_of_ext HE4.out) HU5.out (fun i hi he => by rw [he]; rfl)) (upd_setRow _) (fun i hi he => by rw [he]; rfl)
end Go.Proofs.YtfaegjlolhpofaaDoor
