/- as, Union, Project. -/
import Derived.Test.YtniggdaakiofeaaDoorDx
import Derived.Test.YtniggdaakiofeaaDoorDp
import Derived.Test.YtniggdaakiofeaaDoorTg
namespace Go.Proofs.YtniggdaakiofeaaDoor
open Go Go.RowKit Go.Sort
set_option maxHeartbeats 4000000
/- of this seat alone: 80 -/

theorem eg78 (args : Array Value) (w : World) : (callFunc 78 args).run Tryd.prog w = .ok (.enter 78 args) w := enter_fn Tryd.func78 (by kernel_rfl) rfl args w
theorem asF_any (ba bx : Nat) (avv arv xv : Value) (U : List ByteArray) (R : List (List Int)) (x : List Int) (v : ByteArray) (w : World) (h1 : w.heap[ba]? = some (.cells #[avv, arv] 31 (0, 0))) (h2 : w.heap[bx]? = some (.cells #[xv] 41 (0, 0)))
    (ha : TabV w (.agg #[avv, arv]) U R) (hx : RdI w xv x) (hU : RiseS U) (hu : U.length ≤ 1000000) (hlx : x.length = U.length) :
    Calls Tryd.prog 78 #[.string v, .pointer (some ⟨ba, 0, none⟩), .pointer (some ⟨bx, 0, none⟩)] w fun e w' => e = .returned (.int .i64 (valN U x v)) ∧ Ext w w' := by
  have C1 := Lib.hid (value_any (.agg #[avv, arv]) xv U R x v w ha hx hU hu hlx)
  obtain ⟨a1, a2⟩ := tabV_parts ha
  obtain ⟨A1, c1, rfl⟩ := rdS_form a1
  obtain ⟨A2, c2, rfl⟩ := rdW_form a2
  obtain ⟨A5, c5, rfl⟩ := rdI_form hx
  have q0 : w.cell? ⟨ba, 0, none⟩ = some (.slice A1 U.length c1) := block_cell h1 0
  have q1 : w.cell? ⟨ba, 1, none⟩ = some (.slice A2 R.length c2) := block_cell h1 1
  have q2 : w.cell? ⟨bx, 0, none⟩ = some (.slice A5 x.length c5) := block_cell h2 0
  have l0 := block_lt h1
  have l1 := block_lt h2
  clear h1 h2 ha hx hU hlx a1 a2
  go_enter Tryd.func78, Tryd.ntmps78
  go_wp2_with (go_at_call 47; refine C1.out.mono ?_; rintro e w1 ⟨rfl, hE1⟩; have HE1 := Lib.hid hE1; clear hE1)
  refine bodyPost_ret (results_tmp rfl _ _ _) rfl ?_
  exact ⟨rfl, HE1.out⟩
structure AI (ok : Nat → Prop) (H b0 p : Nat) (ca : Array Value) (VV : List ByteArray) (T : List (List Int)) (w0 w wr : World) : Prop where
  tab : TabK ok H wr p VV T
  a : wr.heap[b0]? = some (.cells ca 31 (0, 0))
  size : H ≤ wr.heap.size
  ext : Ext w0 wr
  upd : Upd (fun b => H ≤ b) w wr
theorem tabK_of {H b0 p : Nat} {w w' : World} {V : List ByteArray} {T : List (List Int)} (h : TabB H w p V T) (hE : Ext w w') (hb : b0 = w.heap.size) : TabK (fun b => H ≤ b ∧ b ≠ b0) H w' p V T := by
  obtain ⟨vv, rv, h1, h2, sl, h3, h4, h5⟩ := h
  refine tabK_ext ⟨vv, rv, h1, h2, sl, ⟨h3.1, fun g hg => ⟨h3.2 g hg, ?_⟩⟩, h4, h5⟩ hE
  obtain ⟨c, cur, hc⟩ := rowE_block h3.1 hg
  have := block_lt hc
  omega
set_option maxRecDepth 100000 in
theorem as_any (H p : Nat) (avv arv : Value) (W U : List ByteArray) (T R : List (List Int)) (w0 w : World) (hB : TabB H w p W T) (ha : TabV w0 (.agg #[avv, arv]) U R) (hE0 : Ext w0 w) (hw0 : w0.heap.size ≤ H) (hU : RiseS U) (hu : U.length ≤ 1000000) (hR : ∀ x ∈ R, x.length = U.length)
    (hp : H ≤ p) (hH : H ≤ w.heap.size) (hw : W.length ≤ 1000000) (hr : T.length + R.length < 1000000) :
    Calls Tryd.prog 46 #[.pointer (some ⟨p, 0, none⟩), .agg #[avv, arv]] w fun e w' => e = .returned (.tuple #[]) ∧ TabB H w' p W (T ++ asN W U R) ∧ Upd (fun b => H ≤ b) w w' := by
  obtain ⟨a1, a2⟩ := tabV_parts ha
  obtain ⟨A1, c1, rfl⟩ := rdS_form a1
  obtain ⟨A2, c2, rfl⟩ := rdW_form a2
  have HA := Lib.hid ha
  have HA2 := Lib.hid a2
  have HR := Lib.hid hR
  have HUU := Lib.hid hU
  obtain ⟨b0, hb0⟩ : ∃ b, b = w.heap.size := ⟨_, rfl⟩
  obtain ⟨W0, hW0⟩ : ∃ W0, W0 = w.alloc (.cells #[.slice A1 U.length c1, .slice A2 R.length c2] 31) := ⟨_, rfl⟩
  have hEW : Ext w W0 := by rw [hW0]; exact ext_alloc (ext_refl _) _
  have HJ := Lib.hid (show AI (fun b => H ≤ b ∧ b ≠ b0) H b0 p #[.slice A1 U.length c1, .slice A2 R.length c2] W (T ++ asN W U (R.take 0)) w0 w W0 from ⟨by simpa [asN] using tabK_of hB hEW hb0, by rw [hW0, hb0]; exact heap_alloc_new _ _, Nat.le_trans hH (ext_size hEW), ext_trans hE0 hEW, upd_of_ext hEW⟩)
  have q0 : W0.cell? ⟨b0, 1, none⟩ = some (.slice A2 R.length c2) := block_cell HJ.out.a 1
  have l0 := block_lt HJ.out.a
  have hpb : p < b0 := by obtain ⟨_, _, h, _⟩ := hB; rw [hb0]; exact block_lt h
  have HN := Lib.hid (show H ≤ b0 ∧ b0 ≠ p ∧ b0 < W0.heap.size from ⟨by omega, by omega, l0⟩)
  clear ha a1 a2 hR hU hB hEW hE0
  go_enter Tryd.func46, Tryd.ntmps46
  go_wp2_with fail
  rw [← hW0, ← hb0]
  clear hW0 hb0
  go_wp2
  clear q0 l0
  go_loopw [9] (fun x wr => ∃ j : Nat, j ≤ R.length ∧ x = .int .i64 j ∧ AI (fun b => H ≤ b ∧ b ≠ b0) H b0 p #[.slice A1 U.length c1, .slice A2 R.length c2] W (T ++ asN W U (R.take j)) w0 w wr) (fun x _ => R.length - (intOf x).toNat)
  case atStart => exact ⟨0, Nat.zero_le _, rfl, HJ.out⟩
  case round =>
    rename World => wo
    obtain ⟨j, hj, rfl, hJ⟩ := hrel
    have HJ2 := Lib.hid hJ
    clear hJ HJ
    by_cases hlt : j < R.length
    · have hji : (j : Int) < (R.length : Int) := by omega
      have hj0 : (0 : Int) ≤ (j : Int) := by omega
      obtain ⟨x, hx⟩ : ∃ x, R[j]? = some x := ⟨_, List.getElem?_eq_getElem hlt⟩
      have HX := Lib.hid hx
      have HXL := Lib.hid (HR.out x (List.mem_of_getElem? hx))
      obtain ⟨b, o, X, d, rfl, hb, hc, hri⟩ := rdW_at (rdW_ext HA2.out HJ2.out.ext) hx
      have HRI := Lib.hid hri
      have HL := Lib.hid hlt
      clear hx hri
      go_wp2_with fail
      obtain ⟨c9, hc9⟩ : ∃ c, c = wo.heap.size := ⟨_, rfl⟩
      obtain ⟨w4, hw4⟩ : ∃ w4, w4 = wo.alloc (.cells #[.slice X x.length d] 41) := ⟨_, rfl⟩
      have hE4 : Ext wo w4 := by rw [hw4]; exact ext_alloc (ext_refl _) _
      have h9 : w4.heap[c9]? = some (.cells #[.slice X x.length d] 41 (0, 0)) := by rw [hw4, hc9]; exact heap_alloc_new _ _
      rw [← hw4, ← hc9]
      have ha4 := (ext_block hE4 (block_lt HJ2.out.a)).trans HJ2.out.a
      have hOf : IsOf w4 78 #[.pointer (some ⟨b0, 0, none⟩), .pointer (some ⟨c9, 0, none⟩)] W (valN U x) := fun wx hx u hu' =>
        asF_any b0 c9 _ _ _ U R x u wx ((ext_block hx (block_lt ha4)).trans ha4) ((ext_block hx (block_lt h9)).trans h9) (tabV_ext HA.out (ext_trans HJ2.out.ext (ext_trans hE4 hx))) (rdI_ext HRI.out (ext_trans hE4 hx)) HUU.out (by omega) HXL.out
      refine (row_anyK (fun b => H ≤ b ∧ b ≠ b0) H p 78 _ eg78 W (T ++ asN W U (R.take j)) (valN U x) w4 (tabK_ext HJ2.out.tab hE4) hOf (fun b hb => ⟨Nat.le_trans HJ2.out.size (Nat.le_trans (ext_size hE4) hb), fun e => by have := block_lt ha4; omega⟩) (Nat.le_trans HJ2.out.size (ext_size hE4)) (fun b hb => hb.1) (by omega) (by rw [List.length_append, asN_len, List.length_take]; omega)).mono ?_
      rintro e w5 ⟨rfl, hT5, hU5⟩
      have hU6 : Upd (fun b => H ≤ b) w4 w5 := upd_mono hU5 (fun b _ hb => hb.elim (fun h => h.1) (fun e => e ▸ hp))
      have HJ3 := Lib.hid (show AI (fun b => H ≤ b ∧ b ≠ b0) H b0 p #[.slice A1 U.length c1, .slice (some ⟨b, o, none⟩) R.length c2] W (T ++ asN W U (R.take (j + 1))) w0 w w5 from
        ⟨by rw [asN_take HX.out, ← List.append_assoc]; exact hT5, (hU5.block b0 (block_lt ha4) (fun e => e.elim (fun h => h.2 rfl) (fun e => HN.out.2.1 e))).trans ha4, Nat.le_trans HJ2.out.size (Nat.le_trans (ext_size hE4) hU5.size), ext_upd (ext_trans HJ2.out.ext hE4) hU6 (fun b hb => Nat.le_trans hw0 hb), upd_trans (upd_ext HJ2.out.upd hE4) hU6 (fun _ _ h => h)⟩)
      clear hT5 hU5 hU6 hOf h9 ha4 hE4 hw4 hc9 hb hc
      go_wp2
      go_roundw
      case rel => exact ⟨j + 1, by omega, by go_num, HJ3.out⟩
      case measure => simp [intOf]; omega
    · obtain rfl : j = R.length := by omega
      have HD := Lib.hid (show TabB H wo p W (T ++ asN W U R) from by
        obtain ⟨vv, rv, h1, h2⟩ := HJ2.out.tab
        rw [List.take_length] at h2
        exact ⟨vv, rv, h1, ownK_own h2 (fun b hb => hb.1)⟩)
      go_wp2
      go_end0
      exact ⟨rfl, HD.out, HJ2.out.upd⟩
end Go.Proofs.YtniggdaakiofeaaDoor
