/- Union, Project. -/
import Derived.Test.YtniggdaakiofeaaDoorEa
namespace Go.Proofs.YtniggdaakiofeaaDoor
open Go Go.RowKit Go.Sort
set_option maxHeartbeats 4000000
/- of this seat alone: 80 -/

set_option maxRecDepth 100000 in
theorem union_any (avv arv bvv brv : Value) (U V : List ByteArray) (R S : List (List Int)) (w : World) (ha : TabV w (.agg #[avv, arv]) U R) (hb : TabV w (.agg #[bvv, brv]) V S) (hU : RiseS U) (hV : RiseS V) (hu : U.length ≤ 100000) (hm : V.length ≤ 100000)
    (hR : ∀ x ∈ R, x.length = U.length) (hS : ∀ y ∈ S, y.length = V.length) (hr : R.length ≤ 100000) (hs : S.length ≤ 100000) :
    Calls Tryd.prog 13 #[.agg #[avv, arv], .agg #[bvv, brv]] w fun e w' => ∃ vv rv, e = .returned (.agg #[vv, rv]) ∧ Own w.heap.size w' vv rv (setS (U ++ V)) (unionN U V R S) ∧ Ext w w' := by
  obtain ⟨a1, a2⟩ := tabV_parts ha
  obtain ⟨a3, a4⟩ := tabV_parts hb
  obtain ⟨A1, c1, rfl⟩ := rdS_form a1
  obtain ⟨A2, c2, rfl⟩ := rdW_form a2
  obtain ⟨A3, c3, rfl⟩ := rdS_form a3
  obtain ⟨A4, c4, rfl⟩ := rdW_form a4
  have HA := Lib.hid ha
  have HB := Lib.hid hb
  have HA1 := Lib.hid a1
  have HA2 := Lib.hid a2
  have HA3 := Lib.hid a3
  have HA4 := Lib.hid a4
  have HR := Lib.hid hR
  have HS := Lib.hid hS
  have HUU := Lib.hid hU
  have HVV := Lib.hid hV
  clear ha hb a1 a2 a3 a4 hR hS hU hV
  obtain ⟨h0, h1, h2, h3⟩ := heap_four w (.cells #[.slice A1 U.length c1, .slice A2 R.length c2] 31) (.cells #[.slice A3 V.length c3, .slice A4 S.length c4] 31) (.cells #[.slice none 0 0, .slice none 0 0] 31) (.cells #[.slice A1 U.length c1, .slice A3 V.length c3] 28)
  have HE0 := Lib.hid (ext_alloc (ext_alloc (ext_alloc (ext_alloc (ext_refl w) (.cells #[.slice A1 U.length c1, .slice A2 R.length c2] 31)) (.cells #[.slice A3 V.length c3, .slice A4 S.length c4] 31)) (.cells #[.slice none 0 0, .slice none 0 0] 31)) (.cells #[.slice A1 U.length c1, .slice A3 V.length c3] 28))
  have HH0 := Lib.hid h0
  have HH1 := Lib.hid h1
  have HH2 := Lib.hid h2
  have HH3 := Lib.hid h3
  clear h0 h1 h2 h3
  obtain ⟨J, hJ⟩ : ∃ J, J = U ++ V := ⟨_, rfl⟩
  have hjl : J.length ≤ 200000 := by rw [hJ, List.length_append]; omega
  have HJE := Lib.hid hJ
  clear hJ
  go_enter Tryd.func13, Tryd.ntmps13
  go_wp2_with (first
    | (go_at_call 43; refine (concat_any (w.heap.size + 3) _ _ U V J _ HJE.out HH3.out (rdS_ext HA1.out HE0.out) (rdS_ext HA3.out HE0.out) hu hm).mono ?_; rintro e w1 ⟨A5, c5, rfl, hr1, hE1⟩; have HR1 := Lib.hid hr1; have HE1 := Lib.hid hE1; clear hr1 hE1)
    | (go_at_call 42; refine (vars_any _ J w1 (rdS_row HR1.out.1) (by omega)).mono ?_; rintro e w2 ⟨v2, rfl, hr2, hE2⟩; obtain ⟨A6, c6, rfl⟩ := rowE_form hr2.1; have HR2 := Lib.hid hr2; have HE2 := Lib.hid hE2; have q0 : w2.cell? ⟨w.heap.size, 0, none⟩ = some (.slice A1 U.length c1) := (ext_cell (ext_trans HE1.out hE2) _ _ (block_lt HH0.out)).trans (block_cell HH0.out 0); have q1 : w2.cell? ⟨w.heap.size, 1, none⟩ = some (.slice A2 R.length c2) := (ext_cell (ext_trans HE1.out hE2) _ _ (block_lt HH0.out)).trans (block_cell HH0.out 1); have l0 := ext_lt (ext_trans HE1.out hE2) (block_lt HH0.out); clear hr2 hE2))
  obtain ⟨H, hH⟩ : ∃ H, H = w.heap.size + 4 := ⟨_, rfl⟩
  obtain ⟨b0, hb0⟩ : ∃ b0, b0 = w.heap.size := ⟨_, rfl⟩
  obtain ⟨b1, hb1⟩ : ∃ b1, b1 = w.heap.size + 1 := ⟨_, rfl⟩
  obtain ⟨b2, hb2⟩ : ∃ b2, b2 = w.heap.size + 1 + 1 := ⟨_, rfl⟩
  obtain ⟨p, hp⟩ : ∃ p, p = w2.heap.size := ⟨_, rfl⟩
  obtain ⟨W2, hW2⟩ : ∃ W2, W2 = w2.alloc (.cells #[.slice A6 (setS J).length c6, .slice none 0 0] 31) := ⟨_, rfl⟩
  have hs1 := ext_size HE1.out
  have hs2 := ext_size HE2.out
  simp only [World.size_alloc] at hs1
  have hE12 := ext_trans HE1.out HE2.out
  have hE2W : Ext w2 W2 := by rw [hW2]; exact ext_alloc (ext_refl _) _
  have hE3 := ext_trans hE12 hE2W
  have hT : TabB H W2 p (setS J) [] := ⟨_, _, by rw [hW2, hp]; exact heap_alloc_new w2 _, rowF_ext _ _ _ hE2W (rowF_low HR2.out (by omega)), [], rowF_nil _ _, rfl, fun i s x hs => by simp at hs⟩
  have HJ := Lib.hid (show JI H b0 b1 b2 p #[.slice A1 U.length c1, .slice A2 R.length c2] #[.slice A3 V.length c3, .slice A4 S.length c4] (setS J) [] w W2 from ⟨hT, by rw [hb0]; exact (ext_block hE3 (block_lt HH0.out)).trans HH0.out, by rw [hb1]; exact (ext_block hE3 (block_lt HH1.out)).trans HH1.out, by rw [hb2]; exact (ext_block hE3 (block_lt HH2.out)).trans HH2.out, by have := ext_size hE2W; omega, ext_trans HE0.out hE3⟩)
  have HBD := Lib.hid (show b0 < H ∧ b1 < H ∧ b2 < H ∧ w.heap.size ≤ H by omega)
  have HB2 := Lib.hid (show w.heap.size ≤ b2 by omega)
  have HPH := Lib.hid (show H ≤ p by omega)
  rw [← hW2, ← hp, ← hb2, ← hb1, ← hb0]
  clear q0 q1 l0 hT hE3 hE2W hE12 hs1 hs2 hW2 hp hb0 hb1 hb2 hH HR1 HR2 HE0 HE1 HE2 HH0 HH1 HH2 HH3
  have hsl := setS_length J
  refine (as_any H p _ _ (setS J) U [] R w W2 HJ.out.tab HA.out HJ.out.ext HBD.out.2.2.2 HUU.out (by omega) HR.out HPH.out HJ.out.size (by omega) (by simp; omega)).mono ?_
  rintro e w3 ⟨rfl, hT, hUp⟩
  obtain ⟨T1, hT1⟩ : ∃ T1, T1 = asN (setS J) U R := ⟨_, rfl⟩
  have hT1l : T1.length = R.length := by rw [hT1]; exact asN_len ..
  rw [List.nil_append, ← hT1] at hT
  have HT1 := Lib.hid hT1
  have HJ3 := Lib.hid (HJ.out.more hT hUp HBD.out)
  clear hT hUp hT1
  have q0 : w3.cell? ⟨b1, 0, none⟩ = some (.slice A3 V.length c3) := block_cell HJ3.out.b 0
  have q1 : w3.cell? ⟨b1, 1, none⟩ = some (.slice A4 S.length c4) := block_cell HJ3.out.b 1
  have l0 := block_lt HJ3.out.b
  have HTL := Lib.hid hT1l
  clear hT1l
  go_wp2_with fail
  clear q0 q1 l0
  refine (as_any H p _ _ (setS J) V T1 S w w3 HJ3.out.tab HB.out HJ3.out.ext HBD.out.2.2.2 HVV.out (by omega) HS.out HPH.out HJ3.out.size (by omega) (by have := HTL.out; omega)).mono ?_
  rintro e w4 ⟨rfl, hT, hUp⟩
  have HJ4 := Lib.hid (HJ3.out.more hT hUp HBD.out)
  clear hT hUp
  have hT := HJ4.out.tab
  obtain ⟨vv, rv, hp, how⟩ := hT
  obtain ⟨A7, c7, rfl⟩ := rdS_form (rdS_row how.1.1)
  obtain ⟨A8, c8, rfl⟩ := rdW_form (own_rdW how)
  obtain ⟨N, hN⟩ : ∃ N, N = T1 ++ asN (setS J) V S := ⟨_, rfl⟩
  rw [← hN] at how hp
  have q0 : w4.cell? ⟨p, 0, none⟩ = some (.slice A7 (setS J).length c7) := block_cell hp 0
  have q1 : w4.cell? ⟨p, 1, none⟩ = some (.slice A8 N.length c8) := block_cell hp 1
  have lp := block_lt hp
  have r0 : w4.cell? ⟨b2, 0, none⟩ = some (.slice none 0 0) := block_cell HJ4.out.r 0
  have r1 : w4.cell? ⟨b2, 1, none⟩ = some (.slice none 0 0) := block_cell HJ4.out.r 1
  have s0 : w4.frozen? ⟨b2, 0, none⟩ = false := block_frozen HJ4.out.r 0
  have s1 : w4.frozen? ⟨b2, 1, none⟩ = false := block_frozen HJ4.out.r 1
  have l1 := block_lt HJ4.out.r
  have HOW := Lib.hid how
  have HN := Lib.hid hN
  clear hp how hN
  go_wp2
  obtain ⟨wf, hwf⟩ : ∃ wf, wf = (w4.setCell ⟨b2, 0, none⟩ (.slice A7 (setS J).length c7)).setCell ⟨b2, 1, none⟩ (.slice A8 N.length c8) := ⟨_, rfl⟩
  obtain ⟨t0, t1, ho, he⟩ := fin_tab (w := w) hwf HOW.out HJ4.out.r HBD.out.2.2.1 HB2.out HJ4.out.ext
  rw [← hwf]
  refine bodyPost_ret (v := .agg #[.slice A7 (setS J).length c7, .slice A8 N.length c8]) (by simp [results, Tryd.results13, go_sem, t0, t1]) rfl ?_
  rw [HN.out, HT1.out, HJE.out] at ho
  rw [HN.out, HT1.out, HJE.out]
  exact ⟨_, _, rfl, ho, he⟩
theorem heap_one (w : World) (o0 : Obj) : (w.alloc o0).heap[w.heap.size]? = some o0 := heap_alloc_new w o0
set_option maxRecDepth 100000 in
theorem project_any (avv arv nv : Value) (U J : List ByteArray) (R : List (List Int)) (w : World) (ha : TabV w (.agg #[avv, arv]) U R) (hn : RdS w nv J) (hU : RiseS U) (hu : U.length ≤ 100000) (hjl : J.length ≤ 100000) (hR : ∀ x ∈ R, x.length = U.length) (hr : R.length ≤ 100000) :
    Calls Tryd.prog 32 #[.agg #[avv, arv], nv] w fun e w' => ∃ vv rv, e = .returned (.agg #[vv, rv]) ∧ Own w.heap.size w' vv rv (setS J) (asN (setS J) U R) ∧ Ext w w' := by
  obtain ⟨a1, a2⟩ := tabV_parts ha
  obtain ⟨A1, c1, rfl⟩ := rdS_form a1
  obtain ⟨A2, c2, rfl⟩ := rdW_form a2
  obtain ⟨A3, c3, rfl⟩ := rdS_form hn
  have HA := Lib.hid ha
  have HNV := Lib.hid hn
  have HR := Lib.hid hR
  have HUU := Lib.hid hU
  clear ha a1 a2 hR hU hn
  obtain ⟨h0, h2⟩ := heap_two w (.cells #[.slice A1 U.length c1, .slice A2 R.length c2] 31) (.cells #[.slice none 0 0, .slice none 0 0] 31)
  have HE0 := Lib.hid (ext_alloc (ext_alloc (ext_refl w) (.cells #[.slice A1 U.length c1, .slice A2 R.length c2] 31)) (.cells #[.slice none 0 0, .slice none 0 0] 31))
  have HH0 := Lib.hid h0
  have HH2 := Lib.hid h2
  clear h0 h2
  go_enter Tryd.func32, Tryd.ntmps32
  go_wp2_with (go_at_call 42; refine (vars_any _ J _ (rdS_ext HNV.out HE0.out) (by omega)).mono ?_; rintro e w2 ⟨v2, rfl, hr2, hE2⟩; obtain ⟨A6, c6, rfl⟩ := rowE_form hr2.1; have HR2 := Lib.hid hr2; have HE2 := Lib.hid hE2; have q0 : w2.cell? ⟨w.heap.size, 0, none⟩ = some (.slice A1 U.length c1) := (ext_cell hE2 _ _ (block_lt HH0.out)).trans (block_cell HH0.out 0); have q1 : w2.cell? ⟨w.heap.size, 1, none⟩ = some (.slice A2 R.length c2) := (ext_cell hE2 _ _ (block_lt HH0.out)).trans (block_cell HH0.out 1); have l0 := ext_lt hE2 (block_lt HH0.out); clear hr2 hE2)
  obtain ⟨H, hH⟩ : ∃ H, H = w.heap.size + 2 := ⟨_, rfl⟩
  obtain ⟨b0, hb0⟩ : ∃ b0, b0 = w.heap.size := ⟨_, rfl⟩
  obtain ⟨b2, hb2⟩ : ∃ b2, b2 = w.heap.size + 1 := ⟨_, rfl⟩
  obtain ⟨p, hp⟩ : ∃ p, p = w2.heap.size := ⟨_, rfl⟩
  obtain ⟨W2, hW2⟩ : ∃ W2, W2 = w2.alloc (.cells #[.slice A6 (setS J).length c6, .slice none 0 0] 31) := ⟨_, rfl⟩
  have hs2 := ext_size HE2.out
  simp only [World.size_alloc] at hs2
  have hE2W : Ext w2 W2 := by rw [hW2]; exact ext_alloc (ext_refl _) _
  have hE3 := ext_trans HE2.out hE2W
  have hT : TabB H W2 p (setS J) [] := ⟨_, _, by rw [hW2, hp]; exact heap_alloc_new w2 _, rowF_ext _ _ _ hE2W (rowF_low HR2.out (by simp; omega)), [], rowF_nil _ _, rfl, fun i s x hs => by simp at hs⟩
  have HJ := Lib.hid (show JI H b0 b0 b2 p #[.slice A1 U.length c1, .slice A2 R.length c2] #[.slice A1 U.length c1, .slice A2 R.length c2] (setS J) [] w W2 from ⟨hT, by rw [hb0]; exact (ext_block hE3 (block_lt HH0.out)).trans HH0.out, by rw [hb0]; exact (ext_block hE3 (block_lt HH0.out)).trans HH0.out, by rw [hb2]; exact (ext_block hE3 (block_lt HH2.out)).trans HH2.out, by have := ext_size hE2W; omega, ext_trans HE0.out hE3⟩)
  have HBD := Lib.hid (show b0 < H ∧ b0 < H ∧ b2 < H ∧ w.heap.size ≤ H by omega)
  have HB2 := Lib.hid (show w.heap.size ≤ b2 by omega)
  have HPH := Lib.hid (show H ≤ p by omega)
  rw [← hW2, ← hp, ← hb2, ← hb0]
  clear q0 q1 l0 hT hE3 hE2W hs2 hW2 hp hb0 hb2 hH HR2 HE0 HE2 HH0 HH2
  have hsl := setS_length J
  refine (as_any H p _ _ (setS J) U [] R w W2 HJ.out.tab HA.out HJ.out.ext HBD.out.2.2.2 HUU.out (by omega) HR.out HPH.out HJ.out.size (by omega) (by simp; omega)).mono ?_
  rintro e w3 ⟨rfl, hT, hUp⟩
  rw [List.nil_append] at hT
  have HJ3 := Lib.hid (HJ.out.more hT hUp HBD.out)
  clear hT hUp
  have hT := HJ3.out.tab
  obtain ⟨vv, rv, hp, how⟩ := hT
  obtain ⟨A7, c7, rfl⟩ := rdS_form (rdS_row how.1.1)
  obtain ⟨A8, c8, rfl⟩ := rdW_form (own_rdW how)
  obtain ⟨N, hN⟩ : ∃ N, N = asN (setS J) U R := ⟨_, rfl⟩
  rw [← hN] at how hp
  have q0 : w3.cell? ⟨p, 0, none⟩ = some (.slice A7 (setS J).length c7) := block_cell hp 0
  have q1 : w3.cell? ⟨p, 1, none⟩ = some (.slice A8 N.length c8) := block_cell hp 1
  have lp := block_lt hp
  have r0 : w3.cell? ⟨b2, 0, none⟩ = some (.slice none 0 0) := block_cell HJ3.out.r 0
  have r1 : w3.cell? ⟨b2, 1, none⟩ = some (.slice none 0 0) := block_cell HJ3.out.r 1
  have s0 : w3.frozen? ⟨b2, 0, none⟩ = false := block_frozen HJ3.out.r 0
  have s1 : w3.frozen? ⟨b2, 1, none⟩ = false := block_frozen HJ3.out.r 1
  have l1 := block_lt HJ3.out.r
  have HOW := Lib.hid how
  have HN := Lib.hid hN
  clear hp how hN
  go_wp2
  obtain ⟨wf, hwf⟩ : ∃ wf, wf = (w3.setCell ⟨b2, 0, none⟩ (.slice A7 (setS J).length c7)).setCell ⟨b2, 1, none⟩ (.slice A8 N.length c8) := ⟨_, rfl⟩
  obtain ⟨t0, t1, ho, he⟩ := fin_tab (w := w) hwf HOW.out HJ3.out.r HBD.out.2.2.1 HB2.out HJ3.out.ext
  rw [← hwf]
  refine bodyPost_ret (v := .agg #[.slice A7 (setS J).length c7, .slice A8 N.length c8]) (by simp [results, Tryd.results32, go_sem, t0, t1]) rfl ?_
  rw [HN.out] at ho
  rw [HN.out]
  exact ⟨_, _, rfl, ho, he⟩
end Go.Proofs.YtniggdaakiofeaaDoor
