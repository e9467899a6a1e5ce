/- Same; as, Union, Project. -/
import Derived.Test.YtniggdaakiofeaaDoorDw
namespace Go.Proofs.YtniggdaakiofeaaDoor
open Go Go.RowKit Go.Sort Go.WideMaps Go.Maps
set_option maxHeartbeats 4000000
/- of this seat alone: 80 -/

theorem field1_run (x y : Value) (w : World) : Sem.run Tryd.prog (Instr.field 31 (.agg #[x, y]) 1) w = .ok y w := by kernel_rfl
set_option maxRecDepth 100000 in
theorem same_any (avv arv bvv brv : Value) (U V : List ByteArray) (R S : List (List Int)) (w : World) (ha : TabV w (.agg #[avv, arv]) U R) (hb : TabV w (.agg #[bvv, brv]) V S) (hT : TabP w) (hu : U.length ≤ 1000) (hm : V.length ≤ 1000) (hr : R.length ≤ 100000) (hs : S.length ≤ 100000)
    (hR : ∀ y ∈ R, TinyR y) (hS : ∀ y ∈ S, TinyR y) (hrl : ∀ y ∈ R, y.length ≤ 1000) (hsl : ∀ y ∈ S, y.length ≤ 1000) :
    Calls Tryd.prog 17 #[.agg #[avv, arv], .agg #[bvv, brv]] w fun e w' => e = .returned (.bool (sameB U V R S)) ∧ Ext w w' := by
  have CE := Lib.hid (fun w' (hE : Ext w w') => equalS_any avv bvv U V w' (rdS_ext (tabV_parts ha).1 hE) (rdS_ext (tabV_parts hb).1 hE) (by omega) (by omega))
  have CM := Lib.hid (fun w' (hE : Ext w w') => minus_any avv arv bvv brv U V R S w' (tabV_ext ha hE) (tabV_ext hb hE) (tabP_ext hT hE) hu hm hr hs hR hS hrl hsl)
  obtain ⟨a1, a2⟩ := tabV_parts ha
  obtain ⟨a3, a4⟩ := tabV_parts hb
  obtain ⟨A1, c1, rfl⟩ := rdS_form a1
  obtain ⟨A2, c2, rfl⟩ := rdW_form a2
  obtain ⟨A3, c3, rfl⟩ := rdS_form a3
  obtain ⟨A4, c4, rfl⟩ := rdW_form a4
  clear ha hb a1 a2 a3 a4 hT hR hS hrl hsl
  go_enter Tryd.func17, Tryd.ntmps17
  go_wp2_with fail
  obtain ⟨eb, heb⟩ : ∃ eb, eb = decide (U = V) := ⟨_, rfl⟩
  rw [← heb] at CE
  have HEB := Lib.hid heb
  clear heb
  refine (CE.out _ (ext_alloc (ext_alloc (ext_refl _) _) _)).mono ?_
  rintro e w1 ⟨rfl, hE⟩
  obtain ⟨hE, g0, g1⟩ := ext2 hE
  have G0 := Lib.hid g0
  have G1 := Lib.hid g1
  have HE1 := Lib.hid hE
  clear hE g0 g1
  cases eb
  · have HV := Lib.hid (show sameB U V R S = false by unfold sameB; rw [← HEB.out]; rfl)
    go_wp2
    refine bodyPost_ret (results_tmp rfl _ _ _) rfl ?_
    exact ⟨by rw [HV.out]; rfl, HE1.out⟩
  · have q0 : w1.cell? ⟨w.heap.size, 0, none⟩ = some (.slice A1 U.length c1) := block_cell G0.out 0
    have q1 : w1.cell? ⟨w.heap.size, 1, none⟩ = some (.slice A2 R.length c2) := block_cell G0.out 1
    have q2 : w1.cell? ⟨w.heap.size + 1, 0, none⟩ = some (.slice A3 V.length c3) := block_cell G1.out 0
    have q3 : w1.cell? ⟨w.heap.size + 1, 1, none⟩ = some (.slice A4 S.length c4) := block_cell G1.out 1
    have l0 := block_lt G0.out
    have l1 := block_lt G1.out
    by_cases hl : R.length = S.length
    · have hli : ((R.length : Int) == (S.length : Int)) = true := by rw [hl]; simp
      have HL := Lib.hid hl
      clear hl
      go_wp2_with fail
      refine (CM.out _ HE1.out).mono ?_
      rintro e w2 ⟨v2, r2, rfl, how, hE⟩
      obtain ⟨NN, hNN⟩ : ∃ NN, NN = minusN U V R S := ⟨_, rfl⟩
      rw [← hNN] at how
      have HNN := Lib.hid hNN
      obtain ⟨A5, c5, rfl⟩ := rdS_form (rdS_row how.1.1)
      obtain ⟨A6, c6, rfl⟩ := rdW_form (own_rdW how)
      have HE2 := Lib.hid (ext_trans HE1.out hE)
      clear hE how hNN q0 q1 q2 q3 l0 l1 hli
      by_cases hz : NN.length = 0
      · have hzi : ((NN.length : Int) == 0) = true := by rw [hz]; rfl
        have HV := Lib.hid (show sameB U V R S = true by unfold sameB; rw [← HEB.out, ← HNN.out, HL.out, hz]; simp)
        clear hz
        have hfd := field1_run
        go_wp2
        refine bodyPost_ret (results_tmp rfl _ _ _) rfl ?_
        exact ⟨by rw [HV.out]; rfl, HE2.out⟩
      · have hzi : ((NN.length : Int) == 0) = false := by simp; exact fun h => hz (by rw [h]; rfl)
        have HV := Lib.hid (show sameB U V R S = false by unfold sameB; rw [← HEB.out, ← HNN.out, HL.out]; simp; exact fun h => hz (by rw [h]; rfl))
        clear hz
        have hfd := field1_run
        go_wp2
        refine bodyPost_ret (results_tmp rfl _ _ _) rfl ?_
        exact ⟨by rw [HV.out]; rfl, HE2.out⟩
    · have hli : ((R.length : Int) == (S.length : Int)) = false := by simp; omega
      have HV := Lib.hid (show sameB U V R S = false by unfold sameB; rw [← HEB.out]; simp [hl])
      clear hl
      go_wp2
      refine bodyPost_ret (results_tmp rfl _ _ _) rfl ?_
      exact ⟨by rw [HV.out]; rfl, HE1.out⟩
end Go.Proofs.YtniggdaakiofeaaDoor
