/- Grow, Concat; joined. -/
import Derived.Test.YtniggdaakiofeaaDoorSi
namespace Go.Proofs.YtniggdaakiofeaaDoor
open Go Go.RowKit Go.Sort
set_option maxHeartbeats 4000000

set_option maxRecDepth 100000 in
theorem grow_any (n : Nat) (w : World) (hn : n ≤ 1000000) : Calls Tryd.prog 76 #[.slice none 0 0, .int .i64 (n : Int)] w fun e w' => ∃ A c, e = .returned (.slice A 0 c) ∧ rowF elS w.heap.size [] (.slice A 0 c) w' ∧ Ext w w' := by
  by_cases h0 : n = 0
  · subst h0
    refine (Any8.slices_Grow_room Tryd.laysGrow none 0 0 0 w (Nat.le_refl _) (by omega) (by omega) (by omega)).mono ?_
    rintro e w' ⟨rfl, rfl⟩
    exact ⟨none, 0, rfl, rowF_nil _ _, ext_refl _⟩
  · have hi : (Tryd.prog.info? 9) = some ((Tryd.prog.info? 9).get (by kernel_rfl)) := (Option.some_get _).symm
    have hsz : ((Tryd.prog.info? 9).get (by kernel_rfl)).size = 1 := by kernel_rfl
    have hz : ((Tryd.prog.info? 9).get (by kernel_rfl)).zero = some (.string ⟨#[]⟩) := by kernel_rfl
    have hby : ((Tryd.prog.info? 9).get (by kernel_rfl)).bytes = 16 := by kernel_rfl
    refine (Any8.slices_Grow_grow Tryd.laysGrow _ (.string ⟨#[]⟩) hi hz (by rw [hsz]; decide) none 0 0 n [] w (Nat.le_refl _) (by omega) (by rw [hby]; omega) (by omega) (by simp) (fun _ => rfl) (fun a h => by cases h)).mono ?_
    rintro e w' ⟨rfl, rfl⟩
    have hge := grownCap_ge w (0 + n) 0 9
    have hle := grownCap_le_maxLen w (0 + n) 0 9 (by unfold maxLen; omega)
    refine ⟨_, _, rfl, ⟨⟨by simp [flatE], .inr ⟨w.heap.size, _, _, rfl, Nat.zero_le _, heap_alloc_new w.drew _, Nat.zero_le _, hle, ?_, by simp [flatE]⟩⟩, fun g hg => by cases hg; exact Nat.le_refl _⟩, ext_alloc (ext_drew (ext_refl w)) _⟩
    have hge' : 0 + n ≤ grownCap w (0 + n) 0 (Tryd.laysGrow_ren.t 25) := hge
    simp only [Builtin.zeroCells, Value.cells, elS]
    simp
    simp at hge'
    omega

set_option maxRecDepth 100000 in
theorem concat_any (g : Nat) (av bv : Value) (U V J : List ByteArray) (w : World) (hJ : J = U ++ V) (hg : w.heap[g]? = some (.cells #[av, bv] 28 (0, 0))) (ha : RdS w av U) (hb : RdS w bv V) (hu : U.length ≤ 100000) (hv : V.length ≤ 100000) :
    Calls Tryd.prog 43 #[.slice (some ⟨g, 0, none⟩) 2 2] w fun e w' => ∃ A c, e = .returned (.slice A J.length c) ∧ rowF elS w.heap.size J (.slice A J.length c) w' ∧ Ext w w' := by
  subst hJ
  obtain ⟨A, c, rfl⟩ := rdS_form ha
  obtain ⟨B, d, rfl⟩ := rdS_form hb
  have q0 : w.cell? ⟨g, 0, none⟩ = some (.slice A U.length c) := block_cell hg 0
  have q1 : w.cell? ⟨g, 1, none⟩ = some (.slice B V.length d) := block_cell hg 1
  have lg := block_lt hg
  have HG := Lib.hid hg
  have HA := Lib.hid ha
  have HB := Lib.hid hb
  clear hg ha hb
  go_enter Tryd.func43, Tryd.ntmps43
  go_wp2
  go_loopw [11, 3] (fun x y wr => wr = w ∧ ((x = .int .i64 0 ∧ y = .int .i64 0) ∨ (x = .int .i64 1 ∧ y = .int .i64 (U.length : Int)) ∨ (x = .int .i64 2 ∧ y = .int .i64 ((U.length : Int) + (V.length : Int))))) (fun x _ _ => 2 - (intOf x).toNat)
  case atStart => exact ⟨rfl, .inl ⟨rfl, rfl⟩⟩
  case round =>
    obtain ⟨hw, hcase⟩ := hrel
    subst hw
    rename World => w
    rcases hcase with ⟨rfl, rfl⟩ | ⟨rfl, rfl⟩ | ⟨rfl, rfl⟩
    · go_wp2
      go_roundw
      case rel => exact ⟨trivial, .inr (.inl ⟨rfl, by go_num⟩)⟩
      case measure => simp [intOf]
    · go_wp2
      go_roundw
      case rel => exact ⟨trivial, .inr (.inr ⟨rfl, by go_num⟩)⟩
      case measure => simp [intOf]
    · have hcast : ((U.length : Int) + (V.length : Int)) = ((U.length + V.length : Nat) : Int) := by omega
      rw [hcast]
      have HGR := Lib.hid (grow_any (U.length + V.length) w (by omega))
      clear hcast
      go_wp2_with (go_at_call 76; refine HGR.out.mono ?_; rintro e w1 ⟨A1, c1, rfl, hr1, hE1⟩; have HR1 := Lib.hid hr1; have HE1 := Lib.hid hE1; clear hr1 hE1)
      clear q0 q1 lg
      go_loopw [27, 6] (fun x y wr => ∃ (L : List ByteArray) (A' : Option Addr) (c' : Nat), ((x = .int .i64 0 ∧ [] = L) ∨ (x = .int .i64 1 ∧ U = L) ∨ (x = .int .i64 2 ∧ U ++ V = L)) ∧ y = .slice A' L.length c' ∧ rowF elS w.heap.size L (.slice A' L.length c') wr ∧ Ext w wr) (fun x _ _ => 2 - (intOf x).toNat)
      case atStart => exact ⟨[], _, _, .inl ⟨rfl, rfl⟩, rfl, HR1.out, HE1.out⟩
      case round =>
        rename World => wo
        obtain ⟨L, A', c', hcase, rfl, hrow, hE⟩ := hrel
        have HE := Lib.hid hE
        have HR := Lib.hid hrow
        have hg2 := (ext_block hE (block_lt HG.out)).trans HG.out
        have q0 : wo.cell? ⟨g, 0, none⟩ = some (.slice A U.length c) := block_cell hg2 0
        have q1 : wo.cell? ⟨g, 1, none⟩ = some (.slice B V.length d) := block_cell hg2 1
        have lg := block_lt hg2
        clear hE hrow hg2
        rcases hcase with ⟨rfl, rfl⟩ | ⟨rfl, rfl⟩ | ⟨rfl, rfl⟩
        · go_wp2_with (at_builtin; refine halt_here ?_)
          refine go_on ?_
          refine wpList_append rfl (.tmp 31) (.tmp 32) rfl _ (.slice A U.length c) rfl rfl (fun v' w' => rowF elS w.heap.size ([] ++ U) v' w' ∧ wo.grownBy w' (Value.slice A' ([] : List ByteArray).length c').ownBlock) (append_onto tpS _ w.heap.size (.slice A' ([] : List ByteArray).length c') _ [] U wo HR.out (rdS_src (rdS_ext HA.out HE.out)) (by simp; omega) (ext_size HE.out)) ?_
          rintro v5 w5 ⟨hR5, hG5⟩
          have HE5 := Lib.hid (ext_grown HE.out hG5 HR.out.2 (Nat.le_refl _))
          obtain ⟨A5, c5, rfl⟩ := rowE_form hR5.1
          have HR5 := Lib.hid hR5
          clear hR5 hG5 q0 q1
          go_wp2
          go_roundw
          case rel => exact ⟨_, _, _, .inr (.inl ⟨rfl, rfl⟩), rfl, HR5.out, HE5.out⟩
          case measure => simp [intOf]
        · go_wp2_with (at_builtin; refine halt_here ?_)
          refine go_on ?_
          refine wpList_append rfl (.tmp 31) (.tmp 32) rfl (.slice A' U.length c') (.slice B V.length d) rfl rfl (fun v' w' => rowF elS w.heap.size (U ++ V) v' w' ∧ wo.grownBy w' (Value.slice A' U.length c').ownBlock) (append_onto tpS _ w.heap.size (.slice A' U.length c') _ U V wo HR.out (rdS_src (rdS_ext HB.out HE.out)) (by omega) (ext_size HE.out)) ?_
          rintro v5 w5 ⟨hR5, hG5⟩
          have HE5 := Lib.hid (ext_grown HE.out hG5 HR.out.2 (Nat.le_refl _))
          obtain ⟨A5, c5, rfl⟩ := rowE_form hR5.1
          obtain ⟨n5, hn5⟩ : ∃ n5, n5 = (U ++ V).length := ⟨_, rfl⟩
          rw [← hn5] at hR5 ⊢
          have HR5 := Lib.hid hR5
          have HN5 := Lib.hid hn5
          clear hR5 hG5 q0 q1 hn5
          go_wp2
          go_roundw
          case rel => exact ⟨U ++ V, A5, c5, .inr (.inr ⟨rfl, rfl⟩), by rw [← HN5.out], by rw [← HN5.out]; exact HR5.out, HE5.out⟩
          case measure => simp [intOf]
        · obtain ⟨n5, hn5⟩ : ∃ n5, n5 = (U ++ V).length := ⟨_, rfl⟩
          rw [← hn5] at HR ⊢
          have HN5 := Lib.hid hn5
          clear q0 q1 hn5
          go_wp2
          refine bodyPost_ret (results_tmp rfl _ _ _) rfl ?_
          rw [← HN5.out]
          exact ⟨A', c', rfl, HR.out, HE.out⟩
end Go.Proofs.YtniggdaakiofeaaDoor
