/- Minus, Same: walked. -/
import Derived.Test.YtniggdaakiofeaaDoorDv
namespace Go.Proofs.YtniggdaakiofeaaDoor
open Go Go.RowKit Go.Sort Go.WideMaps Go.Maps
set_option maxHeartbeats 4000000
/- of this seat alone: 80 -/

theorem leftF_ok {S R : List (List Int)} {i : Nat} {x : List Int} (hS : ∀ y ∈ S, TinyR y) (hR : ∀ y ∈ R, TinyR y) (hx : R[i]? = some x) : decide (leftF S R i (nameS x) - 1 < 0) = okM S R i := by
  have hxt := hR x (List.mem_of_getElem? hx)
  unfold leftF okM
  rw [count_names hS hxt, count_names (fun y hy => hR y (List.mem_of_mem_take hy)) hxt, List.getD_eq_getElem?_getD, hx]
  simp only [Option.getD_some]
  congr 1
  exact propext ⟨fun h => by omega, fun h => by omega⟩
theorem leftF_next {S R : List (List Int)} {i : Nat} {x : List Int} (hx : R[i]? = some x) (s : ByteArray) : (if s = nameS x then leftF S R i (nameS x) - 1 else leftF S R i s) = leftF S R (i + 1) s := by
  unfold leftF
  rw [cntN_next hx]
  by_cases e : s = nameS x
  · rw [if_pos e, if_pos e.symm, e]; push_cast; omega
  · rw [if_neg e, if_neg (fun h => e h.symm)]; push_cast; omega
theorem leftF_bound {S R : List (List Int)} (i : Nat) (s : ByteArray) (h1 : S.length ≤ 100000) (h2 : R.length ≤ 100000) : -1000000 ≤ leftF S R i s ∧ leftF S R i s ≤ 1000000 := by
  have h3 := cntN_le S s
  have h4 := cntN_le (R.take i) s
  rw [List.length_take] at h4
  unfold leftF
  omega
/-- the rows that stay, filtered through a map that tells of some others -/
theorem minus_filter (b5 mb : Nat) (vv rv : Value) (V : List ByteArray) (R S : List (List Int)) (w : World) (ht : TabV w (.agg #[vv, rv]) V R) (hT : TabP w) (hb : w.heap[b5]? = some (.cells #[.map (some mb)] 72 (0, 0))) (hm : MapG mb S.length (fun s => (cntN S s : Int)) w)
    (hv : V.length ≤ 1000) (hr : R.length ≤ 100000) (hs : S.length ≤ 100000) (hR : ∀ y ∈ R, TinyR y) (hS : ∀ y ∈ S, TinyR y) (hrl : ∀ y ∈ R, y.length ≤ 1000) :
    Calls Tryd.prog 27 #[.agg #[vv, rv], .func (.func 54) #[] #[.pointer (some ⟨b5, 0, none⟩)]] w fun e w' => ∃ vv rv, e = .returned (.agg #[vv, rv]) ∧ Own w.heap.size w' vv rv V (keepN (okM S R) R R.length) ∧ Upd (fun b => b = mb) w w' := by
  have hne : b5 ≠ mb := mapI_off hm hb
  have hlm := mapI_lt hm
  have hlb := block_lt hb
  refine (filter_any 54 #[.pointer (some ⟨b5, 0, none⟩)] egMF (fun b => b = mb) (fun i w' => MapG mb (S.length + i) (leftF S R i) w' ∧ w'.heap[b5]? = some (.cells #[.map (some mb)] 72 (0, 0))) (okM S R) vv rv V R w ht
    (fun b e o => by rw [show b = mb from e]; exact mapI_cell hm o) (fun b e => by rw [show b = mb from e]; exact hlm) (fun i w1 w2 hw h hU => ⟨mapI_block h.1 (hU.block mb (by omega) (by omega)), (hU.block b5 (by omega) (by omega)).trans h.2⟩)
    ⟨mapI_congr hm (fun s => by simp [leftF, cntN]) (Nat.le_refl _), hb⟩ (by omega) hr (fun x hx => by have := hrl x hx; omega) (fun i x xv w1 hx hU htv hri hI => ?_)).mono ?_
  · have hxm := List.mem_of_getElem? hx
    have hil : i < R.length := (List.getElem?_eq_some_iff.1 hx).1
    refine (minusF_any b5 mb (S.length + i) (leftF S R i) _ xv V R x w1 hI.2 hI.1 (by omega) htv hri (hR x hxm) (hrl x hxm) (tabP_upd hT hU (fun e => mapI_tab hm hT e.symm)) (leftF_bound i _ hs hr)).mono ?_
    rintro e w2 ⟨rfl, hU2, hm2⟩
    exact ⟨by rw [leftF_ok hS hR hx], hU2, mapI_congr hm2 (fun s => leftF_next hx s) (by omega), (hU2.block b5 (block_lt hI.2) hne).trans hI.2⟩
  · rintro e w' ⟨vv', rv', he, how, hU, _⟩
    exact ⟨vv', rv', he, how, hU⟩

set_option maxRecDepth 100000 in
theorem minus_out (avv arv bvv brv : Value) (U V : List ByteArray) (R S : List (List Int)) (w : World) (ha : TabV w (.agg #[avv, arv]) U R) (hb : TabV w (.agg #[bvv, brv]) V S) (hT : TabP w) (hu : U.length ≤ 1000) (hm : V.length ≤ 1000) (hr : R.length ≤ 100000) (hs : S.length ≤ 100000)
    (hR : ∀ y ∈ R, TinyR y) (hS : ∀ y ∈ S, TinyR y) (hrl : ∀ y ∈ R, y.length ≤ 1000) (hsl : ∀ y ∈ S, y.length ≤ 1000) (hc : ¬ U = V) :
    Calls Tryd.prog 20 #[.agg #[avv, arv], .agg #[bvv, brv]] w fun e w' => ∃ vv rv, e = .returned (.agg #[vv, rv]) ∧ Own w.heap.size w' vv rv U (keepN (okM [] R) R R.length) ∧ Ext w w' := by
  have CE := Lib.hid (fun w' (hE : Ext w w') => equalS_any avv bvv U V w' (rdS_ext (tabV_parts ha).1 hE) (rdS_ext (tabV_parts hb).1 hE) (by omega) (by omega))
  rw [show decide (U = V) = false by simpa using hc] at CE
  obtain ⟨a1, a2⟩ := tabV_parts ha
  obtain ⟨a3, a4⟩ := tabV_parts hb
  obtain ⟨A1, c1, rfl⟩ := rdS_form a1
  obtain ⟨A2, c2, rfl⟩ := rdW_form a2
  obtain ⟨A3, c3, rfl⟩ := rdS_form a3
  obtain ⟨A4, c4, rfl⟩ := rdW_form a4
  have HA := Lib.hid ha
  have HA4 := Lib.hid a4
  have HT := Lib.hid hT
  have HTR := Lib.hid hR
  have HTS := Lib.hid hS
  have HRL := Lib.hid hrl
  have HSL := Lib.hid hsl
  have hmm := @run_makeMap Tryd.prog
  clear ha hb a1 a2 a3 a4 hT hR hS hrl hsl hc
  go_enter Tryd.func20, Tryd.ntmps20
  go_wp2_with fail
  clear hmm
  refine (CE.out _ (ext_alloc (ext_alloc (ext_alloc (ext_alloc (ext_alloc (ext_refl _) _) _) _) _) _)).mono ?_
  rintro e w1 ⟨rfl, hE⟩
  have hmk := mapI_congr (P := Tryd.prog) (k := 9) (e := 3) (f' := fun s => (cntN [] s : Int)) (N' := 0) (mapI_ext (mapI_made _) (ext_trans (ext_alloc (ext_refl _) _) hE)) (fun s => rfl) (Nat.le_refl _)
  simp only [World.size_alloc] at hmk
  obtain ⟨hE, g0, g1, g2, -, g5⟩ := ext5 hE
  obtain ⟨b0, hb0⟩ : ∃ b, b = w.heap.size := ⟨_, rfl⟩
  obtain ⟨b1, hb1⟩ : ∃ b, b = w.heap.size + 1 := ⟨_, rfl⟩
  obtain ⟨b2, hb2⟩ : ∃ b, b = w.heap.size + 1 + 1 := ⟨_, rfl⟩
  obtain ⟨mb, hmb⟩ : ∃ b, b = w.heap.size + 1 + 1 + 1 := ⟨_, rfl⟩
  obtain ⟨b5, hb5⟩ : ∃ b, b = w.heap.size + 1 + 1 + 1 + 1 := ⟨_, rfl⟩
  rw [← hb5, ← hmb, ← hb2, ← hb1, ← hb0]
  rw [← hb5, ← hmb] at g5
  rw [← hmb] at hmk
  rw [← hb2] at g2
  rw [← hb1] at g1
  rw [← hb0] at g0
  have HNE := Lib.hid (show b0 ≠ mb ∧ b1 ≠ mb ∧ b2 ≠ mb ∧ b5 ≠ mb by omega)
  have HWH := Lib.hid (show w.heap.size ≤ mb by omega)
  have HWB := Lib.hid (show w.heap.size ≤ b2 by omega)
  have G0 := Lib.hid g0
  have G1 := Lib.hid g1
  have G2 := Lib.hid g2
  have G5 := Lib.hid g5
  have HE1 := Lib.hid hE
  have HM1 := Lib.hid hmk
  clear hE hmk g0 g1 g2 g5 hb0 hb1 hb2 hmb hb5
  have HU := Lib.hid (upd_refl (fp := fun b => b = mb) (w := w1))
  have HMW := HM1
  have hnq : b0 ≠ mb ∧ b1 ≠ mb ∧ b2 ≠ mb ∧ b5 ≠ mb := HNE.out
  have hb0 := (HU.out.block b0 (block_lt G0.out) hnq.1).trans G0.out
  have hb2 := (HU.out.block b2 (block_lt G2.out) hnq.2.2.1).trans G2.out
  have hb5 := (HU.out.block b5 (block_lt G5.out) hnq.2.2.2).trans G5.out
  have q0 : w1.cell? ⟨b0, 0, none⟩ = some (.slice A1 U.length c1) := block_cell hb0 0
  have q1 : w1.cell? ⟨b0, 1, none⟩ = some (.slice A2 R.length c2) := block_cell hb0 1
  have l0 := block_lt hb0
  have HEW := Lib.hid (show Ext w w1 from ext_upd HE1.out HU.out (fun b e => by have : b = mb := e; have := HWH.out; omega))
  have HB2 := Lib.hid hb2
  have HB5 := Lib.hid hb5
  clear hb0 hb2 hb5 hnq
  go_wp2_with fail
  clear q0 q1 l0
  refine (minus_filter b5 mb _ _ U R [] w1 (tabV_ext HA.out HEW.out) (tabP_ext HT.out HEW.out) HB5.out HMW.out (by omega) hr (by simp) HTR.out (fun y hy => by cases hy) HRL.out).mono ?_
  rintro e w7 ⟨v7, r7, rfl, how, hU7⟩
  have hnq : b0 ≠ mb ∧ b1 ≠ mb ∧ b2 ≠ mb ∧ b5 ≠ mb := HNE.out
  have hb27 := (hU7.block b2 (block_lt HB2.out) hnq.2.2.1).trans HB2.out
  have r0 : w7.cell? ⟨b2, 0, none⟩ = some (.slice none 0 0) := block_cell hb27 0
  have r1 : w7.cell? ⟨b2, 1, none⟩ = some (.slice none 0 0) := block_cell hb27 1
  have s0 : w7.frozen? ⟨b2, 0, none⟩ = false := block_frozen hb27 0
  have s1 : w7.frozen? ⟨b2, 1, none⟩ = false := block_frozen hb27 1
  have l2 := block_lt hb27
  obtain ⟨NN, hNN⟩ : ∃ NN, NN = keepN (okM [] R) R R.length := ⟨_, rfl⟩
  rw [← hNN] at how
  have DNN := Lib.hid hNN
  obtain ⟨A7, c7, rfl⟩ := rdS_form (rdS_row how.1.1)
  obtain ⟨A8, c8, rfl⟩ := rdW_form (own_rdW how)
  have HOW := Lib.hid how
  have HB27 := Lib.hid hb27
  have HBW := Lib.hid (show b2 < w1.heap.size from block_lt HB2.out)
  have HE7 := Lib.hid (show Ext w w7 from ext_upd HEW.out hU7 (fun b e => by have : b = mb := e; have := HWH.out; omega))
  have HW2 := Lib.hid (show w.heap.size ≤ b2 from HWB.out)
  clear how hb27 hU7 hNN hnq
  go_wp2
  obtain ⟨wf, hwf⟩ : ∃ wf, wf = (w7.setCell ⟨b2, 0, none⟩ (.slice A7 U.length c7)).setCell ⟨b2, 1, none⟩ (.slice A8 NN.length c8) := ⟨_, rfl⟩
  obtain ⟨t0, t1, ho, he⟩ := fin_tab (H := w1.heap.size) (w := w) hwf HOW.out HB27.out HBW.out HW2.out HE7.out
  rw [← hwf]
  refine bodyPost_ret (v := .agg #[.slice A7 U.length c7, .slice A8 NN.length c8]) (by simp [results, Tryd.results20, go_sem, t0, t1]) rfl ?_
  rw [← DNN.out]
  exact ⟨_, _, rfl, ho, he⟩
set_option maxRecDepth 100000 in
theorem minus_in (avv arv bvv brv : Value) (U V : List ByteArray) (R S : List (List Int)) (w : World) (ha : TabV w (.agg #[avv, arv]) U R) (hb : TabV w (.agg #[bvv, brv]) V S) (hT : TabP w) (hu : U.length ≤ 1000) (hm : V.length ≤ 1000) (hr : R.length ≤ 100000) (hs : S.length ≤ 100000)
    (hR : ∀ y ∈ R, TinyR y) (hS : ∀ y ∈ S, TinyR y) (hrl : ∀ y ∈ R, y.length ≤ 1000) (hsl : ∀ y ∈ S, y.length ≤ 1000) (hc : U = V) :
    Calls Tryd.prog 20 #[.agg #[avv, arv], .agg #[bvv, brv]] w fun e w' => ∃ vv rv, e = .returned (.agg #[vv, rv]) ∧ Own w.heap.size w' vv rv U (keepN (okM S R) R R.length) ∧ Ext w w' := by
  have CE := Lib.hid (fun w' (hE : Ext w w') => equalS_any avv bvv U V w' (rdS_ext (tabV_parts ha).1 hE) (rdS_ext (tabV_parts hb).1 hE) (by omega) (by omega))
  rw [show decide (U = V) = true by simpa using hc] at CE
  obtain ⟨a1, a2⟩ := tabV_parts ha
  obtain ⟨a3, a4⟩ := tabV_parts hb
  obtain ⟨A1, c1, rfl⟩ := rdS_form a1
  obtain ⟨A2, c2, rfl⟩ := rdW_form a2
  obtain ⟨A3, c3, rfl⟩ := rdS_form a3
  obtain ⟨A4, c4, rfl⟩ := rdW_form a4
  have HA := Lib.hid ha
  have HA4 := Lib.hid a4
  have HT := Lib.hid hT
  have HTR := Lib.hid hR
  have HTS := Lib.hid hS
  have HRL := Lib.hid hrl
  have HSL := Lib.hid hsl
  have hmm := @run_makeMap Tryd.prog
  clear ha hb a1 a2 a3 a4 hT hR hS hrl hsl hc
  go_enter Tryd.func20, Tryd.ntmps20
  go_wp2_with fail
  clear hmm
  refine (CE.out _ (ext_alloc (ext_alloc (ext_alloc (ext_alloc (ext_alloc (ext_refl _) _) _) _) _) _)).mono ?_
  rintro e w1 ⟨rfl, hE⟩
  have hmk := mapI_congr (P := Tryd.prog) (k := 9) (e := 3) (f' := fun s => (cntN [] s : Int)) (N' := 0) (mapI_ext (mapI_made _) (ext_trans (ext_alloc (ext_refl _) _) hE)) (fun s => rfl) (Nat.le_refl _)
  simp only [World.size_alloc] at hmk
  obtain ⟨hE, g0, g1, g2, -, g5⟩ := ext5 hE
  obtain ⟨b0, hb0⟩ : ∃ b, b = w.heap.size := ⟨_, rfl⟩
  obtain ⟨b1, hb1⟩ : ∃ b, b = w.heap.size + 1 := ⟨_, rfl⟩
  obtain ⟨b2, hb2⟩ : ∃ b, b = w.heap.size + 1 + 1 := ⟨_, rfl⟩
  obtain ⟨mb, hmb⟩ : ∃ b, b = w.heap.size + 1 + 1 + 1 := ⟨_, rfl⟩
  obtain ⟨b5, hb5⟩ : ∃ b, b = w.heap.size + 1 + 1 + 1 + 1 := ⟨_, rfl⟩
  rw [← hb5, ← hmb, ← hb2, ← hb1, ← hb0]
  rw [← hb5, ← hmb] at g5
  rw [← hmb] at hmk
  rw [← hb2] at g2
  rw [← hb1] at g1
  rw [← hb0] at g0
  have HNE := Lib.hid (show b0 ≠ mb ∧ b1 ≠ mb ∧ b2 ≠ mb ∧ b5 ≠ mb by omega)
  have HWH := Lib.hid (show w.heap.size ≤ mb by omega)
  have HWB := Lib.hid (show w.heap.size ≤ b2 by omega)
  have G0 := Lib.hid g0
  have G1 := Lib.hid g1
  have G2 := Lib.hid g2
  have G5 := Lib.hid g5
  have HE1 := Lib.hid hE
  have HM1 := Lib.hid hmk
  clear hE hmk g0 g1 g2 g5 hb0 hb1 hb2 hmb hb5
  have q0 : w1.cell? ⟨b1, 1, none⟩ = some (.slice A4 S.length c4) := block_cell G1.out 1
  have l0 := block_lt G1.out
  go_wp2
  clear q0 l0
  go_loopw [17] (fun x wr => ∃ j : Nat, j ≤ S.length ∧ x = .int .i64 j ∧ MapG mb j (fun s => (cntN (S.take j) s : Int)) wr ∧ Upd (fun b => b = mb) w1 wr) (fun x _ => S.length - (intOf x).toNat)
  case atStart => exact ⟨0, Nat.zero_le _, rfl, HM1.out, upd_refl⟩
  case round =>
    rename World => wo
    obtain ⟨j, hj, rfl, hM, hU⟩ := hrel
    have HM := Lib.hid hM
    have HU := Lib.hid hU
    clear hM hU
    by_cases hlt : j < S.length
    · have hji : (j : Int) < (S.length : Int) := by omega
      have hj0 : (0 : Int) ≤ (j : Int) := by omega
      obtain ⟨y, hy⟩ : ∃ y, S[j]? = some y := ⟨_, List.getElem?_eq_getElem hlt⟩
      have hnc : ∀ b, b = mb → ∀ o, w1.cell? ⟨b, o, none⟩ = none := fun b e o => by rw [e]; exact mapI_cell HM1.out o
      obtain ⟨b, off, B, d, rfl, hb, hc, hri⟩ := rdW_at (rdW_off (rdW_ext HA4.out HE1.out) HU.out hnc) hy
      have HRI := Lib.hid hri
      have hym := List.mem_of_getElem? hy
      have hti := HTS.out y hym
      have hyl := HSL.out y hym
      have HTO := Lib.hid (tabP_upd (tabP_ext HT.out HE1.out) HU.out (fun e => mapI_tab HM1.out (tabP_ext HT.out HE1.out) e.symm))
      have hsz : (nameS y).size ≤ maxLen := by have := nameS_size hti; unfold maxLen; omega
      have CN := Lib.hid (fun w' (hE : Ext wo w') => name_any (.slice B y.length d) y w' (rdI_ext HRI.out hE) hti hyl (tabP_ext HTO.out hE))
      have HNX := Lib.hid (fun s => cntN_next hy s)
      obtain ⟨ny, hny⟩ : ∃ ny, ny = nameS y := ⟨_, rfl⟩
      rw [← hny] at CN HNX hsz
      obtain ⟨c, hcv⟩ : ∃ c : Int, c = (cntN (S.take j) ny : Int) := ⟨_, rfl⟩
      have hcb : 0 ≤ c ∧ c ≤ 100000 := by have := cntN_le (S.take j) ny; rw [List.length_take] at this; omega
      have hadd : IntKind.i64.wrap (c + 1) = c + 1 := IntWalk.i64_in _ (by omega)
      have HS := Lib.hid hsz
      have HC := Lib.hid hcv
      have hb5 := (HU.out.block b5 (block_lt G5.out) HNE.out.2.2.2).trans G5.out
      have q0 : wo.cell? ⟨b5, 0, none⟩ = some (.map (some mb)) := block_cell hb5 0
      have l0 := block_lt hb5
      have hlk : ∀ p : Regrown, (Instr.lookup 72 (.map (some mb)) (.string ny) false).run Tryd.prog (grow (redrawn wo p.d) p.os) = .ok (.int .i64 c) (grow (redrawn wo p.d) p.os) := fun p => by
        rw [hcv]
        exact lookI_run Tryd.underlying9 Tryd.underlying72 Tryd.underlying3 (zeroI _) (mapI_ext HM.out (ext_grow (ext_refl _) p.d p.os)) hsz
      have hgc := cell_grown
      clear hy hnc hri hym hti hyl hsz hny hcv hb5
      go_wp2
      clear hb hc
      refine wp_region_gen [] [0, 1, 2, 3, 4] [] [5] [] rfl (by kernel_rfl) (by kernel_rfl) (fun _ _ d _ _ h => by cases d <;> exact h) ?_
      refine wpPre_nil ?_
      repeat (refine wpLoose_step rfl (fun K hK => ?_); (try simp only [Oper.quietAt, Oper.quietUpon]); go_simp; first | (refine hK _ ?_; clear hK K) | (apply Exists.intro; refine ⟨fun p => ?_, hK _ ?_⟩; (go_at_call 53; exact CN.out _ (ext_grow (ext_refl _) _ _)); clear hK K))
      refine wpLoose_nil ?_
      refine wpGen_nil (fun w3 hE3 _ => ?_)
      have HE3 := Lib.hid hE3
      have HM3 := Lib.hid (mapI_ext HM.out hE3)
      clear hE3 hlk hgc q0 l0
      refine wpSeq_of_list [5] [_] _ _ rfl ?_
      refine wpList_update_I rfl (.tmp 21) (.tmp 23) (.tmp 25) 72 rfl Tryd.underlying9 Tryd.underlying72 Tryd.underlying3 rfl HM3.out (by unfold maxLen; omega) ny rfl HS.out (c + 1) rfl (WalkArith.wf_i64 (by omega)) ?_
      intro w4 hm4 hg4
      have HM4 := Lib.hid hm4
      have HU4 := Lib.hid (show Upd (fun b => b = mb) w1 w4 from upd_trans (upd_ext HU.out HE3.out) (upd_grown hg4) (fun b _ e => (Option.some.inj e).symm))
      clear hm4 hg4
      go_wp2
      go_roundw
      case rel => exact ⟨j + 1, by omega, by go_num, mapI_congr HM4.out (fun s => by
          rw [HNX.out]
          by_cases e : s = ny
          · rw [if_pos e, if_pos e.symm, HC.out, e]; push_cast; rfl
          · rw [if_neg e, if_neg (fun h => e h.symm)]; push_cast; omega) (Nat.le_refl _), HU4.out⟩
      case measure => simp [intOf]; omega
    · obtain rfl : j = S.length := by omega
      have HMW := Lib.hid (show MapG mb S.length (fun s => (cntN S s : Int)) wo by have h := HM.out; rw [List.take_length] at h; exact h)
      have hnq : b0 ≠ mb ∧ b1 ≠ mb ∧ b2 ≠ mb ∧ b5 ≠ mb := HNE.out
      have hb0 := (HU.out.block b0 (block_lt G0.out) hnq.1).trans G0.out
      have hb2 := (HU.out.block b2 (block_lt G2.out) hnq.2.2.1).trans G2.out
      have hb5 := (HU.out.block b5 (block_lt G5.out) hnq.2.2.2).trans G5.out
      have q0 : wo.cell? ⟨b0, 0, none⟩ = some (.slice A1 U.length c1) := block_cell hb0 0
      have q1 : wo.cell? ⟨b0, 1, none⟩ = some (.slice A2 R.length c2) := block_cell hb0 1
      have l0 := block_lt hb0
      have HEW := Lib.hid (show Ext w wo from ext_upd HE1.out HU.out (fun b e => by have : b = mb := e; have := HWH.out; omega))
      have HB2 := Lib.hid hb2
      have HB5 := Lib.hid hb5
      clear hb0 hb2 hb5 hnq
      go_wp2_with fail
      clear q0 q1 l0
      refine (minus_filter b5 mb _ _ U R S wo (tabV_ext HA.out HEW.out) (tabP_ext HT.out HEW.out) HB5.out HMW.out (by omega) hr hs HTR.out HTS.out HRL.out).mono ?_
      rintro e w7 ⟨v7, r7, rfl, how, hU7⟩
      have hnq : b0 ≠ mb ∧ b1 ≠ mb ∧ b2 ≠ mb ∧ b5 ≠ mb := HNE.out
      have hb27 := (hU7.block b2 (block_lt HB2.out) hnq.2.2.1).trans HB2.out
      have r0 : w7.cell? ⟨b2, 0, none⟩ = some (.slice none 0 0) := block_cell hb27 0
      have r1 : w7.cell? ⟨b2, 1, none⟩ = some (.slice none 0 0) := block_cell hb27 1
      have s0 : w7.frozen? ⟨b2, 0, none⟩ = false := block_frozen hb27 0
      have s1 : w7.frozen? ⟨b2, 1, none⟩ = false := block_frozen hb27 1
      have l2 := block_lt hb27
      obtain ⟨NN, hNN⟩ : ∃ NN, NN = keepN (okM S R) R R.length := ⟨_, rfl⟩
      rw [← hNN] at how
      have DNN := Lib.hid hNN
      obtain ⟨A7, c7, rfl⟩ := rdS_form (rdS_row how.1.1)
      obtain ⟨A8, c8, rfl⟩ := rdW_form (own_rdW how)
      have HOW := Lib.hid how
      have HB27 := Lib.hid hb27
      have HBW := Lib.hid (show b2 < wo.heap.size from block_lt HB2.out)
      have HE7 := Lib.hid (show Ext w w7 from ext_upd HEW.out hU7 (fun b e => by have : b = mb := e; have := HWH.out; omega))
      have HW2 := Lib.hid (show w.heap.size ≤ b2 from HWB.out)
      clear how hb27 hU7 hNN hnq
      go_wp2
      obtain ⟨wf, hwf⟩ : ∃ wf, wf = (w7.setCell ⟨b2, 0, none⟩ (.slice A7 U.length c7)).setCell ⟨b2, 1, none⟩ (.slice A8 NN.length c8) := ⟨_, rfl⟩
      obtain ⟨t0, t1, ho, he⟩ := fin_tab (H := wo.heap.size) (w := w) hwf HOW.out HB27.out HBW.out HW2.out HE7.out
      rw [← hwf]
      refine bodyPost_ret (v := .agg #[.slice A7 U.length c7, .slice A8 NN.length c8]) (by simp [results, Tryd.results20, go_sem, t0, t1]) rfl ?_
      rw [← DNN.out]
      exact ⟨_, _, rfl, ho, he⟩
theorem minus_any (avv arv bvv brv : Value) (U V : List ByteArray) (R S : List (List Int)) (w : World) (ha : TabV w (.agg #[avv, arv]) U R) (hb : TabV w (.agg #[bvv, brv]) V S) (hT : TabP w) (hu : U.length ≤ 1000) (hm : V.length ≤ 1000) (hr : R.length ≤ 100000) (hs : S.length ≤ 100000)
    (hR : ∀ y ∈ R, TinyR y) (hS : ∀ y ∈ S, TinyR y) (hrl : ∀ y ∈ R, y.length ≤ 1000) (hsl : ∀ y ∈ S, y.length ≤ 1000) :
    Calls Tryd.prog 20 #[.agg #[avv, arv], .agg #[bvv, brv]] w fun e w' => ∃ vv rv, e = .returned (.agg #[vv, rv]) ∧ Own w.heap.size w' vv rv U (minusN U V R S) ∧ Ext w w' := by
  unfold minusN
  by_cases hc : U = V
  · rw [if_pos hc]
    exact minus_in avv arv bvv brv U V R S w ha hb hT hu hm hr hs hR hS hrl hsl hc
  · rw [if_neg hc]
    exact minus_out avv arv bvv brv U V R S w ha hb hT hu hm hr hs hR hS hrl hsl hc
end Go.Proofs.YtniggdaakiofeaaDoor
