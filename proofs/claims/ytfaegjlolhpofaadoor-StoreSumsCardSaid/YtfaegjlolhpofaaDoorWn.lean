/- Remove. -/
import Derived.Test.YtfaegjlolhpofaaDoorWm
namespace Go.Proofs.YtfaegjlolhpofaaDoor
open Go.RowKit Go.Sort
set_option maxHeartbeats 800000

theorem remove_none (s : Nat) (v : Nat → Value) (r : Nat → List Key) (room : Int) (k : Key) (w : World) (hL : Laid w) (hS : StoreAt w s v r room) (hm : (r 0).length ≤ 1000000) (hmono : Rising 0 (r 0))
    (hf : foundB 0 (r 0) k (lb 0 (r 0) k) = false) : Calls Tryd.prog 24 #[.pointer (some ⟨s, 0, none⟩), K3 k.a k.b k.c] w fun e w' => e = .returned (.int .i64 4) ∧ Ext w w' := by
  have HL := Lib.hid hL
  have HS := Lib.hid hS
  have HM := Lib.hid hmono
  have HLen := Lib.hid hm
  clear hL hS hmono hm
  go_enter Tryd.func24, Tryd.ntmps24
  go_wp2_with (go_at_call 19; refine (has_any s v r room k _ ?_ ?_ HLen.out HM.out).mono ?_; (exact laid_ext HL.out (ext_alloc (ext_refl _) _)); (exact store_ext HS.out (ext_alloc (ext_refl _) _)); rintro e w1 ⟨rfl, hE⟩)
  have HE := Lib.hid hE
  clear hE
  go_ret
  exact ⟨rfl, ext_trans (ext_alloc (ext_refl _) _) HE.out⟩

def delTo (r : Nat → List Key) (k : Key) (j : Nat) : Nat → List Key := fun i => if i < j then delAt (r i) (lb i (r i) k) else r i
theorem delTo_zero (r : Nat → List Key) (k : Key) : delTo r k 0 = r := by funext i; simp [delTo]
theorem delTo_self (r : Nat → List Key) (k : Key) (j : Nat) : delTo r k j j = r j := by simp [delTo]
theorem delTo_succ (r : Nat → List Key) (k : Key) (j : Nat) : setN (delTo r k j) j (delAt (r j) (lb j (r j) k)) = delTo r k (j + 1) := by
  funext i
  unfold setN delTo
  by_cases h : i = j
  · subst h; simp
  · by_cases h2 : i < j
    · simp [h, h2, show i < j + 1 by omega]
    · simp [h, h2, show ¬ i < j + 1 by omega]

def RemPost (s : Nat) (v : Nat → Value) (r : Nat → List Key) (room : Int) (k : Key) (w : World) (e : Ending) (w' : World) : Prop :=
  e = .returned (.int .i64 0) ∧ ∃ v', StoreAt w' s v' (delTo r k 3) room ∧ Kept s v v' w w'

theorem remove_ok (s : Nat) (v : Nat → Value) (r : Nat → List Key) (room : Int) (k : Key) (w : World) (hL : Laid w) (hS : StoreAt w s v r room) (hm : ∀ i, i < 3 → (r i).length ≤ 1000000) (hmono : ∀ i : Nat, i < 3 → Rising i (r i))
    (hf : foundB 0 (r 0) k (lb 0 (r 0) k) = true) (hat : ∀ i : Nat, i < 3 → lb i (r i) k < (r i).length) : Calls Tryd.prog 24 #[.pointer (some ⟨s, 0, none⟩), K3 k.a k.b k.c] w (RemPost s v r room k w) := by
  have HL := Lib.hid hL
  have HS := Lib.hid hS
  have HM := Lib.hid hmono
  have HLen := Lib.hid hm
  have HAt := Lib.hid hat
  clear hL hS hmono hm hat
  go_enter Tryd.func24, Tryd.ntmps24
  go_wp2_with (go_at_call 19; refine (has_any s v r room k _ ?_ ?_ (HLen.out 0 (by omega)) (HM.out 0 (by omega))).mono ?_; (exact laid_ext HL.out (ext_alloc (ext_refl _) _)); (exact store_ext HS.out (ext_alloc (ext_refl _) _)); rintro e W ⟨rfl, hE⟩)
  have HE3 := Lib.hid (ext_trans (ext_alloc (ext_refl w) _) hE)
  have hkb : W.heap[w.heap.size]? = some (.cells (key3 k) 25 (0, 0)) := (ext_block hE (by simp)).trans (heap_alloc_new w _)
  clear hE
  have HK3 := Lib.hid hkb
  clear hkb
  have HS3 := Lib.hid (store_ext HS.out HE3.out)
  have HL3 := Lib.hid (laid_ext HL.out HE3.out)
  have hgc := cell_grown
  go_loopw [12] (fun i wr => ∃ (j : Nat) (v' : Nat → Value), j ≤ 3 ∧ i = .int .i64 j ∧ StoreAt wr s v' (delTo r k j) room ∧ Kept s v v' W wr ∧ Laid wr) (fun i _ => 3 - (intOf i).toNat)
  case atStart => exact ⟨0, v, by omega, rfl, by rw [delTo_zero]; exact HS3.out, kept_ext (ext_refl _), HL3.out⟩
  case round =>
    obtain ⟨j, v', hj, rfl, hSr, hKr, hLr⟩ := hrel
    have HSr := Lib.hid hSr
    have HKr := Lib.hid hKr
    have HLr := Lib.hid hLr
    clear hSr hKr hLr
    have hkn : ¬ fpS s v w.heap.size := fun h => by have := fpS_lt HS.out h; omega
    have hkw : w.heap.size < W.heap.size := block_lt HK3.out
    have HKb := Lib.hid ((HKr.out.upd.block _ hkw hkn).trans HK3.out)
    by_cases hlt : j < 3
    · have hjj : (j : Int) < 3 := by omega
      have hj0 : (0 : Int) ≤ (j : Int) := by omega
      have q0 : wr.cell? ⟨w.heap.size, 0, none⟩ = some (.int .i64 k.a) := block_cell HKb.out 0
      have q1 : wr.cell? ⟨w.heap.size, 1, none⟩ = some (.int .i64 k.b) := block_cell HKb.out 1
      have q2 : wr.cell? ⟨w.heap.size, 2, none⟩ = some (.int .i64 k.c) := block_cell HKb.out 2
      go_wp2_with (go_at_call 30; refine (find_ks s j j rfl v' (delTo r k j) (r j) (delTo_self r k j) room k _ HLr.out HSr.out hlt (HLen.out j hlt) (HM.out j hlt)).mono ?_; rintro e w4 ⟨rfl, hE4⟩)
      have HE4 := Lib.hid hE4
      clear hE4 q0 q1 q2
      have HS4 := Lib.hid (store_ext HSr.out HE4.out)
      have HKb4 := Lib.hid ((ext_block HE4.out (block_lt HKb.out)).trans HKb.out)
      have q0 : w4.cell? ⟨w.heap.size, 0, none⟩ = some (.int .i64 k.a) := block_cell HKb4.out 0
      have q1 : w4.cell? ⟨w.heap.size, 1, none⟩ = some (.int .i64 k.b) := block_cell HKb4.out 1
      have q2 : w4.cell? ⟨w.heap.size, 2, none⟩ = some (.int .i64 k.c) := block_cell HKb4.out 2
      have lq : w.heap.size < w4.heap.size := block_lt HKb4.out
      have s0 := store_cell HS4.out j hlt
      have ls := World.block_lt_of_cell? _ _ s0
      have hsum : IntKind.i64.wrap ((lb (j : Int) (r j) k : Int) + 1) = (lb (j : Int) (r j) k : Int) + 1 := IntWalk.i64_in _ (by have := HAt.out j hlt; have := HLen.out j hlt; omega)
      refine wp_region_mix [0, 1, 2, 3, 4, 5, 6, 8, 9, 10, 12, 13] [7] [] [11, 14, 15] (by kernel_rfl) (by kernel_rfl) (fun _ _ d _ _ h => by cases d <;> exact h) ?_
      repeat (refine wpPre_step rfl (fun K hK => ?_); go_simp; (refine hK _ ?_; clear hK K))
      refine wpPre_nil ?_
      repeat (refine wpLoose_step rfl (fun K hK => ?_); (try simp only [Oper.quietAt, Oper.quietUpon]); go_simp; (refine hK _ ?_; clear hK K))
      refine wpLoose_nil (wpFresh_nil (fun w5 hE5 _ => ?_))
      have HE5 := Lib.hid hE5
      clear hE5 q0 q1 q2 s0 hsum
      have HS5 := Lib.hid (store_ext HS4.out HE5.out)
      refine wpSeq_of_list [11, 14, 15] [_, _, _] _ _ rfl ?_
      go_wp2_with (go_at_call 33; refine delete_any (v' j) (r j) _ _ (by have := HS5.out.row j hlt; rwa [delTo_self] at this) (HLen.out j hlt) (HAt.out j hlt) |>.mono ?_; rintro e w6 ⟨v6, rfl, hrow6, hu6, hl6⟩; obtain ⟨a6, n6, c6, rfl⟩ := row_form hrow6; (have HU6 := Lib.hid hu6); (have HR6 := Lib.hid hrow6); (have HL6 := Lib.hid hl6); clear hu6 hrow6 hl6; (have cs6 : w6.cell? ⟨s, j, none⟩ = some (v' j) := (upd_cell HU6.out (block_lt HS5.out.blk) (fun h => HS5.out.off j hlt h) j).trans (store_cell HS5.out j hlt)); (have fs6 : w6.frozen? ⟨s, j, none⟩ = false := block_frozen ((HU6.out.block s (block_lt HS5.out.blk) (HS5.out.off j hlt)).trans HS5.out.blk) j))
      go_roundw
      case rel =>
        have hput := store_put HS5.out hlt HR6.out HU6.out (.inl HL6.out)
        rw [delTo_succ] at hput
        have hkp := kept_trans (kept_trans HKr.out (kept_ext (ext_trans HE4.out HE5.out))) (kept_put hlt HU6.out (.inl HL6.out))
        exact ⟨j + 1, _, by omega, by go_num, hput, hkp, laid_kept HL3.out HS3.out hkp⟩
      case measure => simp [intOf]; omega
    · have hj3 : j = 3 := by omega
      subst hj3
      go_wp2
      go_ret
      exact ⟨rfl, v', HSr.out, kept_trans (kept_ext HE3.out) HKr.out⟩
end Go.Proofs.YtfaegjlolhpofaaDoor
