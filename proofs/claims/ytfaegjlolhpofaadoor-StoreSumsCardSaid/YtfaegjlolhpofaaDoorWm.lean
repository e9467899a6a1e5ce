/- Add: it is full; it is added. -/
import Derived.Test.YtfaegjlolhpofaaDoorWl
namespace Go.Proofs.YtfaegjlolhpofaaDoor
open Go.RowKit Go.Sort
set_option maxHeartbeats 800000

theorem add_full (s : Nat) (v : Nat → Value) (r : Nat → List Key) (room : Int) (k : Key) (w : World) (hL : Laid w) (hS : StoreAt w s v r room) (hm : (r 0).length ≤ 1000000) (hmono : Rising 0 (r 0)) (ha : 0 ≤ k.a) (hb : 0 ≤ k.b) (hc : 0 ≤ k.c)
    (hf : foundB 0 (r 0) k (lb 0 (r 0) k) = false) (hroom : room ≤ (r 0).length) : Calls Tryd.prog 16 #[.pointer (some ⟨s, 0, none⟩), K3 k.a k.b k.c] w fun e w' => e = .returned (.int .i64 6) ∧ Ext w w' := by
  have HL := Lib.hid hL
  have HS := Lib.hid hS
  have HM := Lib.hid hmono
  have HLen := Lib.hid hm
  clear hL hS hmono hm
  have ha' : ¬ k.a < 0 := by omega
  have hb' : ¬ k.b < 0 := by omega
  have hc' : ¬ k.c < 0 := by omega
  go_enter Tryd.func16, Tryd.ntmps16
  go_wp2_with (go_at_call 19; refine (has_any s v r room k _ ?_ ?_ HLen.out HM.out).mono ?_; (exact laid_ext HL.out (ext_alloc (ext_refl _) _)); (exact store_ext HS.out (ext_alloc (ext_refl _) _)); rintro e w1 ⟨rfl, hE⟩)
  have HE := Lib.hid (ext_trans (ext_alloc (ext_refl w) _) hE)
  clear hE
  have HS1 := Lib.hid (store_ext HS.out HE.out)
  have cr := store_room HS1.out
  have ls := World.block_lt_of_cell? _ _ cr
  have hgc := cell_grown
  refine wp_region_free 8 [0, 1, 2, 3, 4, 5, 6, 7] [] (by kernel_rfl) (by kernel_rfl) ?_
  repeat (refine wpLoose_step rfl (fun K hK => ?_); (try simp only [Oper.quietAt, Oper.quietUpon]); go_simp; first | (refine hK _ ?_; clear hK K) | (apply Exists.intro; refine ⟨fun p => ?_, hK _ ?_⟩; (go_at_call 27; refine (len_any s v r room _ (store_ext HS1.out (ext_grow (ext_refl _) _ _))).mono (fun _ _ h => ⟨h.1, by rw [← h.2]; exact ext_refl _⟩)); clear hK K))
  refine wpLoose_nil (wpFresh_nil (fun w3 hE3 _ => ?_))
  have HE3 := Lib.hid hE3
  clear hE3
  simp only [List.drop_succ_cons, List.drop_zero]
  refine wpList_nil ?_
  go_wp2
  go_ret
  exact ⟨rfl, ext_trans HE.out HE3.out⟩

def AddPost (s : Nat) (v : Nat → Value) (r : Nat → List Key) (room : Int) (k : Key) (w : World) (e : Ending) (w' : World) : Prop :=
  e = .returned (.int .i64 0) ∧ ∃ v', StoreAt w' s v' (insTo r k 3) room ∧ Kept s v v' w w'

theorem add_ok (s : Nat) (v : Nat → Value) (r : Nat → List Key) (room : Int) (k : Key) (w : World) (hL : Laid w) (hS : StoreAt w s v r room) (hm : ∀ i, i < 3 → (r i).length ≤ 999999) (hmono : ∀ i : Nat, i < 3 → Rising i (r i)) (ha : 0 ≤ k.a) (hb : 0 ≤ k.b) (hc : 0 ≤ k.c)
    (hf : foundB 0 (r 0) k (lb 0 (r 0) k) = false) (hroom : (r 0).length < room) : Calls Tryd.prog 16 #[.pointer (some ⟨s, 0, none⟩), K3 k.a k.b k.c] w (AddPost s v r room k w) := by
  have HL := Lib.hid hL
  have HS := Lib.hid hS
  have HM := Lib.hid hmono
  have HLen := Lib.hid hm
  clear hL hS hmono hm
  have ha' : ¬ k.a < 0 := by omega
  have hb' : ¬ k.b < 0 := by omega
  have hc' : ¬ k.c < 0 := by omega
  have hroom' : ¬ room ≤ (r 0).length := by omega
  go_enter Tryd.func16, Tryd.ntmps16
  go_wp2_with (go_at_call 19; refine (has_any s v r room k _ ?_ ?_ (Nat.le_trans (HLen.out 0 (by omega)) (by omega)) (HM.out 0 (by omega))).mono ?_; (exact laid_ext HL.out (ext_alloc (ext_refl _) _)); (exact store_ext HS.out (ext_alloc (ext_refl _) _)); rintro e w1 ⟨rfl, hE⟩)
  have HE := Lib.hid (ext_trans (ext_alloc (ext_refl w) _) hE)
  have hkb : w1.heap[w.heap.size]? = some (.cells (key3 k) 25 (0, 0)) := (ext_block hE (by simp)).trans (heap_alloc_new w _)
  clear hE
  have HK := Lib.hid hkb
  clear hkb
  have HS1 := Lib.hid (store_ext HS.out HE.out)
  have cr := store_room HS1.out
  have ls := World.block_lt_of_cell? _ _ cr
  have hgc := cell_grown
  refine wp_region_free 8 [0, 1, 2, 3, 4, 5, 6, 7] [] (by kernel_rfl) (by kernel_rfl) ?_
  repeat (refine wpLoose_step rfl (fun K hK => ?_); (try simp only [Oper.quietAt, Oper.quietUpon]); go_simp; first | (refine hK _ ?_; clear hK K) | (apply Exists.intro; refine ⟨fun p => ?_, hK _ ?_⟩; (go_at_call 27; refine (len_any s v r room _ (store_ext HS1.out (ext_grow (ext_refl _) _ _))).mono (fun _ _ h => ⟨h.1, by rw [← h.2]; exact ext_refl _⟩)); clear hK K))
  refine wpLoose_nil (wpFresh_nil (fun W hE3 _ => ?_))
  have HE3 := Lib.hid (ext_trans HE.out hE3)
  have HK3 := Lib.hid ((ext_block hE3 (block_lt HK.out)).trans HK.out)
  have HS3 := Lib.hid (store_ext HS.out HE3.out)
  have HL3 := Lib.hid (laid_ext HL.out HE3.out)
  clear hE3 cr ls
  simp only [List.drop_succ_cons, List.drop_zero]
  refine wpList_nil ?_
  go_wp2
  go_loopw [34] (fun i wr => ∃ (j : Nat) (v' : Nat → Value), j ≤ 3 ∧ i = .int .i64 j ∧ StoreAt wr s v' (insTo r k j) room ∧ Kept s v v' W wr ∧ Laid wr) (fun i _ => 3 - (intOf i).toNat)
  case atStart => exact ⟨0, v, by omega, rfl, by rw [insTo_zero]; exact HS3.out, kept_ext (ext_refl _), HL3.out⟩
  case round =>
    obtain ⟨j, v', hj, rfl, hSr, hKr, hLr⟩ := hrel
    have HSr := Lib.hid hSr
    have HKr := Lib.hid hKr
    have HLr := Lib.hid hLr
    clear hSr hKr hLr
    have hkn : ¬ fpS s v w.heap.size := fun h => by have := fpS_lt HS.out h; omega
    have hkw : w.heap.size < W.heap.size := block_lt HK3.out
    have HKb := Lib.hid ((HKr.out.upd.block _ hkw hkn).trans HK3.out)
    by_cases hlt : j < 3
    · have hjj : (j : Int) < 3 := by omega
      have hj0 : (0 : Int) ≤ (j : Int) := by omega
      have q0 : wr.cell? ⟨w.heap.size, 0, none⟩ = some (.int .i64 k.a) := block_cell HKb.out 0
      have q1 : wr.cell? ⟨w.heap.size, 1, none⟩ = some (.int .i64 k.b) := block_cell HKb.out 1
      have q2 : wr.cell? ⟨w.heap.size, 2, none⟩ = some (.int .i64 k.c) := block_cell HKb.out 2
      go_wp2_with (go_at_call 30; refine (find_ks s j j rfl v' (insTo r k j) (r j) (insTo_self r k j) room k _ HLr.out HSr.out hlt (Nat.le_trans (HLen.out j hlt) (by omega)) (HM.out j hlt)).mono ?_; rintro e w4 ⟨rfl, hE4⟩)
      have HE4 := Lib.hid hE4
      clear hE4 q0 q1 q2
      have HS4 := Lib.hid (store_ext HSr.out HE4.out)
      have HKb4 := Lib.hid ((ext_block HE4.out (block_lt HKb.out)).trans HKb.out)
      have q0 : w4.cell? ⟨w.heap.size, 0, none⟩ = some (.int .i64 k.a) := block_cell HKb4.out 0
      have q1 : w4.cell? ⟨w.heap.size, 1, none⟩ = some (.int .i64 k.b) := block_cell HKb4.out 1
      have q2 : w4.cell? ⟨w.heap.size, 2, none⟩ = some (.int .i64 k.c) := block_cell HKb4.out 2
      have lq : w.heap.size < w4.heap.size := block_lt HKb4.out
      have s0 := store_cell HS4.out j hlt
      have ls := World.block_lt_of_cell? _ _ s0
      refine wp_region_mix [0, 1, 2, 3, 4, 5, 6, 8, 12, 13] [7, 9] [10] [11, 14, 15] (by kernel_rfl) (by kernel_rfl) (fun _ _ d _ _ h => by cases d <;> exact h) ?_
      repeat (refine wpPre_step rfl (fun K hK => ?_); go_simp; (refine hK _ ?_; clear hK K))
      refine wpPre_nil ?_
      repeat (refine wpLoose_step rfl (fun K hK => ?_); (try simp only [Oper.quietAt, Oper.quietUpon]); go_simp; (refine hK _ ?_; clear hK K))
      refine wpLoose_nil ?_
      refine wpFresh_step (fun p => .slice (some ⟨p, 0, none⟩) 1 1) (.cells (key3 k) 25) rfl rfl (fun _ => by go_simp; rfl) (fun p1 hp1 hn1 => ?_)
      refine wpFresh_nil (fun w5 hE5 hs5 => ?_)
      have hp5 := hs5.2
      have HP5 := Lib.hid hp5
      have HE5 := Lib.hid hE5
      have HPn := Lib.hid (show w4.heap.size ≤ p1 from hp1)
      clear hp5 hs5 hE5 hp1 hn1 q0 q1 q2 s0
      have HS5 := Lib.hid (store_ext HS4.out HE5.out)
      refine wpSeq_of_list [11, 14, 15] [_, _, _] _ _ rfl ?_
      simp only [Act.put, List.getElem_toArray, List.getElem_cons_succ, List.getElem_cons_zero, List.setIfInBounds_toArray, List.set_cons_succ, List.set_cons_zero]
      go_wp2_with (go_at_call 31; refine insert_any (v' j) (r j) _ k p1 1 _ (by have := HS5.out.row j hlt; rwa [insTo_self] at this) (Nat.le_trans (HLen.out j hlt) (by omega)) (lb_le _ _ _) HP5.out (fun h => by have := (World.ownsRow.lt (HS4.out.row j hlt) _ h).2; have := HPn.out; omega) |>.mono ?_; rintro e w6 ⟨v6, rfl, hrow6, hu6, hl6⟩; obtain ⟨a6, n6, c6, rfl⟩ := row_form hrow6; (have HU6 := Lib.hid hu6); (have HR6 := Lib.hid hrow6); (have HL6 := Lib.hid hl6); clear hu6 hrow6 hl6; (have cs6 : w6.cell? ⟨s, j, none⟩ = some (v' j) := (upd_cell HU6.out (block_lt HS5.out.blk) (fun h => HS5.out.off j hlt h) j).trans (store_cell HS5.out j hlt)); (have fs6 : w6.frozen? ⟨s, j, none⟩ = false := block_frozen ((HU6.out.block s (block_lt HS5.out.blk) (HS5.out.off j hlt)).trans HS5.out.blk) j))
      go_roundw
      case rel =>
        have hput := store_put HS5.out hlt HR6.out HU6.out HL6.out
        rw [insTo_succ] at hput
        have hkp := kept_trans (kept_trans HKr.out (kept_ext (ext_trans HE4.out HE5.out))) (kept_put hlt HU6.out HL6.out)
        exact ⟨j + 1, _, by omega, by go_num, hput, hkp, laid_kept HL3.out HS3.out hkp⟩
      case measure => simp [intOf]; omega
    · have hj3 : j = 3 := by omega
      subst hj3
      go_wp2
      go_ret
      exact ⟨rfl, v', HSr.out, kept_trans (kept_ext HE3.out) HKr.out⟩
end Go.Proofs.YtfaegjlolhpofaaDoor
