/- slices.Insert, Delete, Clone on rows of keys. -/
import Derived.Test.YtfaegjlolhpofaaDoorProg
import Derived.Test.YtfaegjlolhpofaaDoorRw
import Derived.WalkKit
import Derived.WalkSpells
import Derived.WalkLawsBesides
import Derived.Lib.Hide
import Derived.Lib.Overlaps
import Derived.Deep.AppendLies
namespace Go.Proofs.YtfaegjlolhpofaaDoor
open Go.RowKit Go.Sort
set_option maxHeartbeats 800000

theorem info25 : (Tryd.prog.info? 25).map (fun i => (i.zero, i.size, i.bytes)) = some (some (K3 0 0 0), 3, 24) := by kernel_rfl

def InsPost (v : Value) (ks : List Key) (pos : Nat) (k : Key) (w : World) (e : Ending) (w' : World) : Prop :=
  ∃ v', e = .returned v' ∧ rowOf w' v' (insAt ks pos k) ∧ Upd (fun b => v.ownBlock = some b) w w' ∧ (v'.ownBlock = v.ownBlock ∨ ∃ g, v'.ownBlock = some g ∧ w.heap.size ≤ g)


theorem insert_end (v : Value) (ks : List Key) (k : Key) (nb nc : Nat) (w : World) (hrow : w.ownsRow 0 25 3 v ks.length (flat ks)) (hm : ks.length ≤ 1000000)
    (hnb : w.heap[nb]? = some (.cells (key3 k) 25 (0, 0))) :
    Calls Tryd.prog 31 #[v, .int .i64 ks.length, .slice (some ⟨nb, 0, none⟩) 1 nc] w (InsPost v ks ks.length k w) := by
  obtain ⟨i0, hi0, hz0, hz1, hz2⟩ := info_parts info25
  have FIN := Lib.hid (show ∀ g c w', w'.ownsRow 0 25 3 (.slice (some ⟨g, 0, none⟩) (ks.length + 1) c) (ks.length + 1) (flat ks ++ (key3 k).toList) → w.grownBy w' v.ownBlock → (v.ownBlock = some g ∨ g = w.heap.size) → InsPost v ks ks.length k w (.returned (.slice (some ⟨g, 0, none⟩) (ks.length + 1) c)) w' from fun g c w' h1 h2 h3 =>
    ⟨_, rfl, by unfold rowOf; rw [insAt_end, List.length_append, flat_append, flat_cons]; exact h1, upd_grown h2, by
      rcases h3 with h3 | h3
      · exact .inl h3.symm
      · exact .inr ⟨g, rfl, by omega⟩⟩)
  obtain ⟨n, hn⟩ : ∃ n, n = ks.length := ⟨_, rfl⟩
  rw [← hn] at hrow hm FIN ⊢
  have HR := Lib.hid hrow
  have HB := Lib.hid hnb
  have HI := Lib.hid hi0
  have HZ0 := Lib.hid hz0
  have HZ1 := Lib.hid hz1
  have HZ2 := Lib.hid hz2
  clear hn hrow hnb hi0 hz0 hz1 hz2
  rcases HR.out.2 with ⟨hv, h0⟩ | ⟨g, cap, cur, hv, _, hg, hle, hcm, hcs, htk⟩
  · subst hv
    subst h0
    rw [show ((0 : Nat) : Int) = 0 from rfl]
    go_enter Tryd.func31, Tryd.ntmps31
    go_wp2_with (at_builtin; refine wpList_append_lies _ rfl (.tmp 23) (.tmp 24) 62 rfl 0 25 i0 (K3 0 0 0) 3 24 Tryd.underlying62 HI.out HZ0.out HZ1.out HZ2.out rfl (by decide) (.slice none 0 0) 0 (flat ks) rfl HR.out ⟨nb, 0, none⟩ 1 nc (key3 k).toList rfl rfl (World.news_of_block HB.out) (key3_one k) (by decide) (by unfold maxLen; omega) (by omega) (Nat.zero_le _) w.heap.size rfl ?_; intro g' cap' w1 hown1 hgrow1 hlie1 hlt1)
    go_ret
    exact FIN.out _ _ _ (by simpa using hown1) hgrow1 hlie1
  · subst hv
    clear hg hcm hcs htk
    go_enter Tryd.func31, Tryd.ntmps31
    go_wp2_with (at_builtin; refine wpList_append_lies _ rfl (.tmp 23) (.tmp 24) 62 rfl 0 25 i0 (K3 0 0 0) 3 24 Tryd.underlying62 HI.out HZ0.out HZ1.out HZ2.out rfl (by decide) (.slice (some ⟨g, 0, none⟩) n cap) n (flat ks) rfl HR.out ⟨nb, 0, none⟩ 1 nc (key3 k).toList rfl rfl (World.news_of_block HB.out) (key3_one k) (by decide) (by unfold maxLen; omega) (by omega) (Nat.zero_le _) w.heap.size rfl ?_; intro g' cap' w1 hown1 hgrow1 hlie1 hlt1)
    all_goals (go_ret; exact FIN.out _ _ _ hown1 hgrow1 hlie1)

theorem insert_grow (g n pos : Nat) (cur : Array Value) (ks : List Key) (k : Key) (nb nc : Nat) (w : World) (hn : n = ks.length) (hm : n ≤ 1000000) (hp : pos < n)
    (hg : w.heap[g]? = some (.cells cur 25 (0, 0))) (htk : cur.toList.take (n * 3) = flat ks) (hcs : cur.size = n * 3)
    (hnb : w.heap[nb]? = some (.cells (key3 k) 25 (0, 0))) (_hne : g ≠ nb) :
    Calls Tryd.prog 31 #[.slice (some ⟨g, 0, none⟩) n n, .int .i64 pos, .slice (some ⟨nb, 0, none⟩) 1 nc] w (InsPost (.slice (some ⟨g, 0, none⟩) n n) ks pos k w) := by
  obtain ⟨i0, hi0, hz0, hz1, hz2⟩ := info_parts info25
  have HN := Lib.hid hn
  have HG := Lib.hid hg
  have HT := Lib.hid htk
  have HC := Lib.hid hcs
  have HB := Lib.hid hnb
  have HI := Lib.hid hi0
  have HZ0 := Lib.hid hz0
  have HZ1 := Lib.hid hz1
  have HZ2 := Lib.hid hz2
  have HOLD := Lib.hid (show ∀ j u, (flat (ks.take pos))[j]? = some u → w.cell? ((⟨g, 0, none⟩ : Addr).add j) = some u from fun j u hj => by
    rw [flat_take, ← htk, List.getElem?_take] at hj
    split at hj
    · rw [List.getElem?_take] at hj
      split at hj
      · rw [Addr.add_lit, Nat.zero_add, block_cell hg]; simpa using hj
      · cases hj
    · cases hj)
  clear hn hg htk hcs hnb hi0 hz0 hz1 hz2
  have hnp : ¬ n = pos := by omega
  have hpi : (pos : Int) < (n : Int) := by omega
  have hpe : ((pos : Int) == (n : Int)) = false := by simp; omega
  go_enter Tryd.func31, Tryd.ntmps31
  go_wp2_with (at_builtin; refine halt_here ?_)
  refine go_on ?_
  refine wpList_append_zeros _ rfl (.tmp 34) (.tmp 39) 62 3 rfl 25 i0 (K3 0 0 0) .i64 .i64 Tryd.underlying62 Tryd.underlying3 HI.out HZ0.out ⟨g, 0, none⟩ pos n rfl (flat (ks.take pos)) (by rw [flat_length, HZ1.out, List.length_take, ← HN.out]; omega) HOLD.out (n + 1 - pos) (n + 1) _ rfl (by omega) (by omega) (by omega) (by rw [HZ1.out]; decide) (by omega) (by unfold maxLen; omega) (by rw [HZ2.out]; omega) ?_ (by rw [HZ1.out]; rfl)
  intro c cur2 hc1 hc2 hcs2 htk2
  obtain ⟨W, hW⟩ : ∃ W, W = w.drew.alloc (.cells cur2 25) := ⟨_, rfl⟩
  rw [← hW]
  have HE := Lib.hid (show Ext w W by rw [hW]; exact ext_alloc (ext_drew (ext_refl _)) _)
  have HG2 := Lib.hid (show W.heap[w.heap.size]? = some (.cells cur2 25 (0, 0)) by rw [hW]; exact heap_alloc_new w.drew _)
  have HC2 := Lib.hid (show cur2.size = c * 3 from hcs2)
  have HT2 := Lib.hid htk2
  have HBW := Lib.hid ((ext_block HE.out (block_lt HB.out)).trans HB.out)
  clear hW hcs2 htk2
  have hcp : ¬ c = pos := by omega
  have hcp1 : ¬ c = pos + 1 := by omega
  have hpc : (pos : Int) ≤ (c : Int) := by omega
  have hpn1 : (pos : Int) ≤ (n : Int) + 1 := by omega
  go_wp2_with ((with_reducible refine wpList_copy_any _ rfl (.tmp 43) (.tmp 44) 62 62 rfl 25 i0 Tryd.underlying62 HI.out w.heap.size (pos * 3) (n + 1 - pos) (c - pos) ⟨nb, 0, none⟩ 1 nc rfl rfl cur2 25 HG2.out (key3 k).toList (by rw [HZ1.out, key3_length, show Nat.min 1 (n + 1 - pos) = 1 from Nat.min_eq_left (by omega)]) (World.news_of_block HBW.out) (by rw [key3_length, HC2.out]; omega) (key3_one k) ?_))
  have HG3 := Lib.hid (setRow_heap W w.heap.size cur2 (splice cur2.toList (pos * 3) (key3 k).toList).toArray 25 (0, 0) HG2.out)
  have HU3 := Lib.hid (upd_setRow (w := W) (g := w.heap.size) (splice cur2.toList (pos * 3) (key3 k).toList).toArray)
  refine wp_gen (fun W3 hW3 => ?_)
  rw [← hW3] at HG3 HU3
  clear hW3
  have hsum : IntKind.i64.wrap ((pos : Int) + 1) = (pos : Int) + 1 := IntWalk.i64_in _ (by omega)
  have hsn : ((pos : Int) + 1).toNat = pos + 1 := by omega
  have hs0 : (0 : Int) ≤ (pos : Int) + 1 := by omega
  have hs1 : (pos : Int) + 1 ≤ (n : Int) + 1 := by omega
  have hs2 : (pos : Int) ≤ (n : Int) := by omega
  refine wp_region_free 8 [0, 1, 2, 3, 4, 5, 6, 7] [] (by kernel_rfl) (by kernel_rfl) ?_
  repeat (refine wpLoose_step rfl (fun K hK => ?_); (try simp only [Oper.quietAt, Oper.quietUpon]); go_simp; (refine hK _ ?_; clear hK K))
  clear hsum hsn
  refine wpLoose_nil (wpFresh_nil (fun W4 hE4 _ => ?_))
  simp only [List.drop_succ_cons, List.drop_zero]
  have HG4 := Lib.hid ((ext_block hE4 (block_lt HG3.out)).trans HG3.out)
  have HU4 := Lib.hid (show Upd (fun _ => False) w W4 from upd_trans (upd_trans (upd_of_ext HE.out) HU3.out (fun i hi he => by omega)) (upd_of_ext (fp := fun _ => False) hE4) (fun _ _ h => h))
  clear hE4
  have HS4 := Lib.hid (show ∀ j u, (flat (ks.drop pos))[j]? = some u → W4.cell? ((⟨g, pos * 3, none⟩ : Addr).add j) = some u from fun j u hj => by
    have hgw : g < w.heap.size := block_lt HG.out
    rw [Addr.add_lit, upd_cell HU4.out hgw (fun h => h), block_cell HG.out]
    rw [flat_drop, ← HT.out, List.getElem?_drop, List.getElem?_take] at hj
    split at hj
    · simpa using hj
    · cases hj)
  have hlen : (flat (ks.drop pos)).length = (n - pos) * 3 := by rw [flat_length, List.length_drop, ← HN.out]
  have hmin : Nat.min (n - pos) (n - pos) = n - pos := Nat.min_self _
  have HL := Lib.hid hlen
  have HM := Lib.hid hmin
  clear hlen hmin
  refine wpList_copy_any _ rfl (.tmp 50) (.tmp 53) 62 62 rfl 25 i0 Tryd.underlying62 HI.out w.heap.size ((pos + 1) * 3) (n - pos) (c - (pos + 1)) ⟨g, pos * 3, none⟩ (n - pos) (n - pos) rfl rfl _ 25 HG4.out (flat (ks.drop pos)) (by rw [HZ1.out, HL.out, HM.out]) HS4.out ?_ (flat_one _) ?_
  · rw [HL.out]; simp [splice, HC2.out, key3]; omega
  refine wpList_nil ?_
  go_wp2_with fail
  go_ret
  have hn := HN.out
  subst hn
  have hA : (flat (ks.take pos)).length = pos * 3 := by rw [flat_length, List.length_take]; omega
  have ht2 := HT2.out
  rw [hA] at ht2
  refine ⟨_, rfl, row_mk (setRow_heap _ _ _ _ _ _ HG4.out) (insAt_length (Nat.le_of_lt hp)).symm hc1 hc2 ?_ ?_, ?_, .inr ⟨w.heap.size, rfl, Nat.le_refl _⟩⟩
  · have h1 := length_splice cur2.toList (pos * 3) (key3 k).toList (by rw [key3_length]; simp [HC2.out]; omega)
    rw [List.size_toArray, length_splice _ _ _ (by rw [HL.out, h1]; simp [HC2.out]; omega), h1]
    simp [HC2.out]
  · rw [insAt_length (Nat.le_of_lt hp)]
    rw [show (pos + 1) * 3 = pos * 3 + 3 by omega]
    exact ins_cells cur2.toList ks k pos (Nat.le_of_lt hp) (by simp [HC2.out]; omega) ht2
  · exact upd_trans (upd_mono HU4.out (fun _ _ h => h.elim)) (upd_setRow _) (fun i hi he => by omega)
end Go.Proofs.YtfaegjlolhpofaaDoor
