/- Copy. -/
import Derived.Test.YtfaegjlolhpofaaDoorUe
namespace Go.Proofs.YtfaegjlolhpofaaDoor
open Go.RowKit Go.Sort
set_option maxHeartbeats 800000

def CopyPost (L : List Key) (room : Int) (w : World) (e : Ending) (w' : World) : Prop :=
  ∃ (c : Nat) (F' : Nat → Prop), e = .returned (.pointer (some ⟨c, 0, none⟩)) ∧ St w' F' c L room ∧ Ext w w' ∧ (∀ b, F' b → w.heap.size ≤ b)
def upTo (r : Nat → List Key) (j : Nat) : Nat → List Key := fun i => if i < j then r i else []
theorem upTo_zero (r : Nat → List Key) : upTo r 0 = noKeys := by funext i; simp [upTo, noKeys]
theorem upTo_succ (r : Nat → List Key) (j : Nat) : setN (upTo r j) j (r j) = upTo r (j + 1) := by
  funext i
  unfold setN upTo
  by_cases h : i = j
  · subst h; simp
  · by_cases h2 : i < j
    · simp [h, h2, show i < j + 1 by omega]
    · simp [h, h2, show ¬ i < j + 1 by omega]

theorem copy_any {w : World} {F : Nat → Prop} {s : Nat} {L : List Key} {room : Int} (h : St w F s L room) (hm : L.length ≤ 100000) : Calls Tryd.prog 28 #[.pointer (some ⟨s, 0, none⟩)] w (CopyPost L room w) := by
  obtain ⟨v, r, hS⟩ := h
  have hlen : ∀ i : Nat, i < 3 → (r i).length ≤ 100000 := fun i hi => by rw [(hS.perm i hi).length_eq]; exact hm
  have HLen := Lib.hid hlen
  have HS := Lib.hid hS
  clear hlen hS
  have cr := store_room HS.out.at_
  have ls := World.block_lt_of_cell? _ _ cr
  go_enter Tryd.func28, Tryd.ntmps28
  go_wp2
  have h1s : 1 < w.heap.size := Nat.lt_trans HS.out.at_.high.1 ls
  refine wp_gen (fun W hW => ?_)
  have HI : Hid (StoreAt W w.heap.size nilV noKeys room ∧ Ext w W) := Lib.hid (by rw [hW]; exact ⟨store_new w room h1s, ext_alloc (ext_refl _) _⟩)
  clear hW cr ls h1s
  go_loopw [11] (fun x wr => ∃ (j : Nat) (v2 : Nat → Value), j ≤ 3 ∧ x = .int .i64 j ∧ StoreAt wr w.heap.size v2 (upTo r j) room ∧ Ext w wr ∧ (∀ i, i < 3 → ∀ g, (v2 i).ownBlock = some g → w.heap.size ≤ g) ∧ (∀ i, j ≤ i → (v2 i).ownBlock = none)) (fun x _ => 3 - (intOf x).toNat)
  case atStart => exact ⟨0, nilV, by omega, rfl, by rw [upTo_zero]; exact HI.out.1, HI.out.2, (fun i hi g h => by cases h), fun _ _ => rfl⟩
  case round =>
    obtain ⟨j, v2, hj, rfl, hS2, hE2, hF2, hN2⟩ := hrel
    have HN2 := Lib.hid hN2
    clear hN2
    have HS2 := Lib.hid hS2
    have HE2 := Lib.hid hE2
    have HF2 := Lib.hid hF2
    clear hS2 hE2 hF2
    by_cases hlt : j < 3
    · have hjj : (j : Int) < 3 := by omega
      have hj0 : (0 : Int) ≤ (j : Int) := by omega
      have HSr := Lib.hid (store_ext HS.out.at_ HE2.out)
      have s0 := store_cell HSr.out j hlt
      have ls := World.block_lt_of_cell? _ _ s0
      have hgc := cell_grown
      go_wp2
      refine wp_region_mix [0, 1, 2, 3, 4, 5, 6, 9, 10] [7] [] [8, 11, 12] (by kernel_rfl) (by kernel_rfl) (fun _ _ d _ _ h => by cases d <;> exact h) ?_
      repeat (refine wpPre_step rfl (fun K hK => ?_); go_simp; (refine hK _ ?_; clear hK K))
      refine wpPre_nil ?_
      repeat (refine wpLoose_step rfl (fun K hK => ?_); (try simp only [Oper.quietAt, Oper.quietUpon]); go_simp; (refine hK _ ?_; clear hK K))
      refine wpLoose_nil (wpFresh_nil (fun w5 hE5 _ => ?_))
      have HE5 := Lib.hid hE5
      clear hE5 s0
      have HS5 := Lib.hid (store_ext HS2.out HE5.out)
      refine wpSeq_of_list [8, 11, 12] [_, _, _] _ _ rfl ?_
      go_wp2_with (go_at_call 35; refine (clone_any (v j) (r j) _ ((store_ext HSr.out HE5.out).row j hlt) (Nat.le_trans (HLen.out j hlt) (by omega))).mono ?_; rintro e w6 ⟨v6, rfl, hrow6, hE6, hl6⟩; obtain ⟨a6, n6, c6, rfl⟩ := row_form hrow6; (have HE6 := Lib.hid hE6); (have HR6 := Lib.hid hrow6); (have HL6 := Lib.hid hl6); clear hE6 hrow6 hl6; (have HS6 := Lib.hid (store_ext HS5.out HE6.out)); (have cs6 : w6.cell? ⟨w.heap.size, j, none⟩ = some (v2 j) := store_cell HS6.out j hlt); (have fs6 : w6.frozen? ⟨w.heap.size, j, none⟩ = false := block_frozen HS6.out.blk j))
      go_roundw
      case rel =>
        have hput := store_put (ks' := r j) HS5.out hlt HR6.out (upd_of_ext HE6.out) (by
          rcases row_cases HR6.out with ⟨e, _⟩ | ⟨g, cap, cur, e, _⟩
          · exact .inl (by rw [e, HN2.out j (Nat.le_refl _)]; rfl)
          · exact .inr ⟨g, by rw [e]; rfl, HL6.out g (by rw [e]; rfl)⟩)
        rw [upTo_succ] at hput
        refine ⟨j + 1, _, by omega, by go_num, hput, ?_, (fun i hi g hg => ?_), fun i hi => ?_⟩
        · exact ext_set (ext_trans HE2.out (ext_trans HE5.out HE6.out)) (Nat.le_refl _) _
        · by_cases hij : i = j
          · subst hij
            rw [setN_self] at hg
            exact Nat.le_trans (ext_size (ext_trans HE2.out HE5.out)) (HL6.out g hg)
          · rw [setN_ne _ _ _ _ hij] at hg
            exact HF2.out i hi g hg
        · rw [setN_ne _ _ _ _ (by omega)]
          exact HN2.out i (by omega)
      case measure => simp [intOf]; omega
    · obtain rfl : j = 3 := by omega
      go_wp2
      go_ret
      refine ⟨w.heap.size, fpS w.heap.size v2, rfl, ⟨v2, upTo r 3, HS2.out, fun i hi => ?_, fun i hi => ?_, fun _ => Iff.rfl, HS.out.nn⟩, HE2.out, fun b hb => ?_⟩
      · unfold upTo; rw [if_pos hi]; exact HS.out.sorted i hi
      · unfold upTo; rw [if_pos hi]; exact HS.out.perm i hi
      · rcases hb with rfl | ⟨i, hi, hb⟩
        · exact Nat.le_refl _
        · exact HF2.out i hi b hb
end Go.Proofs.YtfaegjlolhpofaaDoor
