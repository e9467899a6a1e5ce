/- Of. -/
import Derived.Test.YtniggdaakiofeaaDoorSf
namespace Go.Proofs.YtniggdaakiofeaaDoor
open Go Go.RowKit Go.Sort
set_option maxHeartbeats 4000000

/-- what Of tells of a var -/
def ofG (names : List ByteArray) (row : List Int) (v : ByteArray) : Int := if idxS names v < row.length then row.getD (idxS names v) (-1) else -1
theorem ofG_row (names : List ByteArray) (row : List Int) : rowOf (setS names) (ofG names row) = ofRow names row := rfl
theorem eg56 (args : Array Value) (w : World) : (callFunc 56 args).run Tryd.prog w = .ok (.enter 56 args) w := enter_fn Tryd.func56 (by kernel_rfl) rfl args w
theorem ofF_any (b0 b7 : Nat) (nv rv : Value) (L : List ByteArray) (row : List Int) (v : ByteArray) (w : World) (h0 : w.heap[b0]? = some (.cells #[nv] 28 (0, 0))) (h7 : w.heap[b7]? = some (.cells #[rv] 41 (0, 0))) (hn : RdS w nv L) (hr : RdI w rv row) (hv : v ∈ L) (hm : L.length ≤ 1000000) (hl : row.length ≤ 9223372036854775807) :
    Calls Tryd.prog 56 #[.string v, .pointer (some ⟨b0, 0, none⟩), .pointer (some ⟨b7, 0, none⟩)] w fun e w' => e = .returned (.int .i64 (ofG L row v)) ∧ Ext w w' := by
  have HI := Lib.hid (index_any nv L v w hn hv hm)
  obtain ⟨A, c, rfl⟩ := rdS_form hn
  obtain ⟨B, d, rfl⟩ := rdI_form hr
  have q0 : w.cell? ⟨b0, 0, none⟩ = some (.slice A L.length c) := block_cell h0 0
  have q7 : w.cell? ⟨b7, 0, none⟩ = some (.slice B row.length d) := block_cell h7 0
  have l0 := block_lt h0
  have l7 := block_lt h7
  obtain ⟨p, hp⟩ : ∃ p, p = idxS L v := ⟨_, rfl⟩
  have hpl : p ≤ L.length := by rw [hp]; exact idxS_le L v
  unfold ofG
  rw [← hp] at HI ⊢
  have hp0 : (0 : Int) ≤ (p : Int) := by omega
  by_cases hh : p < row.length
  · obtain ⟨b, off, rfl, hb, hcell⟩ := rdI_at hr (List.getElem?_eq_getElem hh)
    have e : row.getD p (-1) = row[p] := by simp [List.getD, hh]
    rw [if_pos hh, e]
    obtain ⟨y, hy⟩ : ∃ y, y = row[p] := ⟨_, rfl⟩
    rw [← hy] at hcell ⊢
    have hp1 : (p : Int) < (row.length : Int) := by omega
    clear h0 h7 hn hr hv hp e hy hh
    go_enter Tryd.func56, Tryd.ntmps56
    go_wp2_with (go_at_call 57; refine HI.out.mono ?_; rintro e w1 ⟨rfl, rfl⟩)
    refine bodyPost_ret (results_tmp rfl _ _ _) rfl ?_
    exact ⟨rfl, ext_refl _⟩
  · rw [if_neg hh]
    have hp1 : ¬ (p : Int) < (row.length : Int) := by omega
    clear h0 h7 hn hr hv hp hh
    go_enter Tryd.func56, Tryd.ntmps56
    go_wp2_with (go_at_call 57; refine HI.out.mono ?_; rintro e w1 ⟨rfl, rfl⟩)
    refine bodyPost_ret (results_tmp rfl _ _ _) rfl ?_
    exact ⟨rfl, ext_refl _⟩

set_option maxRecDepth 100000 in
theorem of_any (nv rv : Value) (L : List ByteArray) (R : List (List Int)) (w : World) (hn : RdS w nv L) (hr : RdW w rv R) (hm : L.length ≤ 1000000) (hl : R.length ≤ 100000) (hrl : ∀ x ∈ R, x.length ≤ 9223372036854775807) :
    Calls Tryd.prog 21 #[nv, rv] w fun e w' => ∃ vv rv', e = .returned (.agg #[vv, rv']) ∧ Own w.heap.size w' vv rv' (setS L) (R.map (ofRow L)) ∧ Ext w w' := by
  obtain ⟨A, c, rfl⟩ := rdS_form hn
  obtain ⟨B, d, rfl⟩ := rdW_form hr
  have HN := Lib.hid hn
  have HR := Lib.hid hr
  have HRL := Lib.hid hrl
  clear hn hr hrl
  go_enter Tryd.func21, Tryd.ntmps21
  have HE0 := Lib.hid (ext_alloc (ext_alloc (ext_refl w) (.cells #[.slice A L.length c] 28)) (.cells #[.slice none 0 0, .slice none 0 0] 31))
  go_wp2_with (go_at_call 42; refine (vars_any _ L _ (rdS_ext HN.out HE0.out) hm).mono ?_; rintro e w1 ⟨v1, rfl, hr1, hE1⟩; obtain ⟨A1, c1, rfl⟩ := rowE_form hr1.1; have HR1 := Lib.hid hr1; have HE1 := Lib.hid (ext_trans HE0.out hE1); have HE01 := Lib.hid hE1; clear hr1 hE1)
  obtain ⟨hb0, hb1⟩ := heap_two w (.cells #[.slice A L.length c] 28) (.cells #[.slice none 0 0, .slice none 0 0] 31)
  have hsz : ((w.alloc (.cells #[.slice A L.length c] 28)).alloc (.cells #[.slice none 0 0, .slice none 0 0] 31)).heap.size = w.heap.size + 2 := by simp
  obtain ⟨H, hH⟩ : ∃ H, H = w.heap.size + 2 := ⟨_, rfl⟩
  rw [hsz, ← hH] at HR1
  have HB0 := Lib.hid ((ext_block HE01.out (block_lt hb0)).trans hb0)
  have HB1 := Lib.hid ((ext_block HE01.out (block_lt hb1)).trans hb1)
  have hHs := ext_size HE01.out
  rw [hsz, ← hH] at hHs
  obtain ⟨p, hp⟩ : ∃ p, p = w1.heap.size := ⟨_, rfl⟩
  obtain ⟨W1, hW1⟩ : ∃ W1, W1 = w1.alloc (.cells #[.slice A1 (setS L).length c1, .slice none 0 0] 31) := ⟨_, rfl⟩
  have hEW : Ext w1 W1 := by rw [hW1]; exact ext_alloc (ext_refl _) _
  have hT : TabB H W1 p (setS L) [] := ⟨_, _, by rw [hW1, hp]; exact heap_alloc_new w1 _, rowF_ext _ _ _ hEW HR1.out, [], rowF_nil _ _, rfl, fun i s x hs => by simp at hs⟩
  have HT := Lib.hid hT
  have HEW := Lib.hid (ext_trans HE1.out hEW)
  have HB0W := Lib.hid ((ext_block hEW (block_lt HB0.out)).trans HB0.out)
  have HB1W := Lib.hid ((ext_block hEW (block_lt HB1.out)).trans HB1.out)
  obtain ⟨b0, hbb0⟩ : ∃ b0, b0 = w.heap.size := ⟨_, rfl⟩
  obtain ⟨b1, hbb1⟩ : ∃ b1, b1 = w.heap.size + 1 := ⟨_, rfl⟩
  rw [← hW1]
  rw [← hp] at hHs ⊢
  have hbH0 : b0 < H := by omega
  have hbH1 : b1 < H := by omega
  have HH := Lib.hid hH
  rw [← hbb1]
  rw [← hbb0] at HB0W ⊢
  rw [← hbb1] at HB1W
  clear hb0 hb1 hsz HB0 HB1 hT hEW HR1 HE1 HE01 HE0 hW1 hp hH
  have HHs := Lib.hid hHs
  have HX0 := Lib.hid hbH0
  have HX1 := Lib.hid hbH1
  have HXB0 := Lib.hid hbb0
  have HXB1 := Lib.hid hbb1
  clear hHs hbH0 hbH1 hbb0 hbb1
  have hsl := setS_length L
  go_loopw [13] (fun x wr => ∃ j : Nat, j ≤ R.length ∧ x = .int .i64 j ∧ TabB H wr p (setS L) ((R.take j).map (ofRow L)) ∧ wr.heap[b0]? = some (.cells #[.slice A L.length c] 28 (0, 0)) ∧ wr.heap[b1]? = some (.cells #[.slice none 0 0, .slice none 0 0] 31 (0, 0)) ∧ H ≤ wr.heap.size ∧ Ext w wr) (fun x _ => R.length - (intOf x).toNat)
  case atStart => exact ⟨0, Nat.zero_le _, rfl, HT.out, HB0W.out, HB1W.out, by have := block_lt (HT.out).choose_spec.choose_spec.1; have := HHs.out; omega, HEW.out⟩
  case round =>
    rename World => wo
    obtain ⟨j, hj, rfl, hT, h0, h1, hHw, hE⟩ := hrel
    have HT2 := Lib.hid hT
    have H0 := Lib.hid h0
    have H1 := Lib.hid h1
    have HHw := Lib.hid hHw
    have HE := Lib.hid hE
    clear hT h0 h1 hHw hE
    by_cases hlt : j < R.length
    · have hji : (j : Int) < (R.length : Int) := by omega
      have hj0 : (0 : Int) ≤ (j : Int) := by omega
      obtain ⟨x, hx⟩ : ∃ x, R[j]? = some x := ⟨_, List.getElem?_eq_getElem hlt⟩
      have HX := Lib.hid hx
      have HXL := Lib.hid (HRL.out x (List.mem_of_getElem? hx))
      obtain ⟨b, o, B', d', rfl, hb, hc, hri⟩ := rdW_at (rdW_ext HR.out HE.out) hx
      have HRI := Lib.hid hri
      clear hx hri
      have HEx := Lib.hid (ext_alloc (ext_refl wo) (.cells #[.slice B' x.length d'] 41))
      have hOf : IsOf (wo.alloc (.cells #[.slice B' x.length d'] 41)) 56 #[.pointer (some ⟨b0, 0, none⟩), .pointer (some ⟨wo.heap.size, 0, none⟩)] (setS L) (ofG L x) := fun wx hx v hv =>
        ofF_any b0 wo.heap.size _ _ L x v wx ((ext_block (ext_trans HEx.out hx) (block_lt H0.out)).trans H0.out) ((ext_block hx (block_lt (heap_alloc_new wo _))).trans (heap_alloc_new wo _)) (rdS_ext HN.out (ext_trans HE.out (ext_trans HEx.out hx))) (rdI_ext HRI.out (ext_trans HEx.out hx)) (mem_setS.1 hv) hm HXL.out
      have HOF := Lib.hid hOf
      clear hOf
      go_wp2_with (go_at_call 55; refine (row_any H p 56 _ eg56 (setS L) ((R.take j).map (ofRow L)) (ofG L x) _ (tabB_ext HT2.out HEx.out) HOF.out HHs.out (Nat.le_trans HHw.out (ext_size HEx.out)) (by omega) (by rw [List.length_map, List.length_take]; omega)).mono ?_; rintro e w3 ⟨rfl, hT3, hU3⟩; have HT3 := Lib.hid hT3; have HU3 := Lib.hid hU3; clear hT3 hU3)
      go_roundw
      case rel => exact ⟨j + 1, by omega, by go_num, by rw [List.take_add_one, HX.out, List.map_append]; exact HT3.out, (HU3.out.block b0 (ext_lt HEx.out (block_lt H0.out)) (by have := HX0.out; omega)).trans ((ext_block HEx.out (block_lt H0.out)).trans H0.out), (HU3.out.block b1 (ext_lt HEx.out (block_lt H1.out)) (by have := HX1.out; omega)).trans ((ext_block HEx.out (block_lt H1.out)).trans H1.out), Nat.le_trans HHw.out (Nat.le_trans (ext_size HEx.out) HU3.out.size), ext_upd (ext_trans HE.out HEx.out) HU3.out (fun b hb => by have := HH.out; omega)⟩
      case measure => simp [intOf]; omega
    · obtain rfl : j = R.length := by omega
      have hT := HT2.out
      rw [List.take_length] at hT
      obtain ⟨vv, rv, hp, how⟩ := hT
      obtain ⟨A2, c2, rfl⟩ := rdS_form (rdS_row how.1.1)
      obtain ⟨B2, d2, rfl⟩ := rdW_form (own_rdW how)
      have q0 : wo.cell? ⟨p, 0, none⟩ = some (.slice A2 (setS L).length c2) := block_cell hp 0
      have q1 : wo.cell? ⟨p, 1, none⟩ = some (.slice B2 (R.map (ofRow L)).length d2) := block_cell hp 1
      have lp := block_lt hp
      have r0 : wo.cell? ⟨b1, 0, none⟩ = some (.slice none 0 0) := block_cell H1.out 0
      have r1 : wo.cell? ⟨b1, 1, none⟩ = some (.slice none 0 0) := block_cell H1.out 1
      have s0 : wo.frozen? ⟨b1, 0, none⟩ = false := block_frozen H1.out 0
      have s1 : wo.frozen? ⟨b1, 1, none⟩ = false := block_frozen H1.out 1
      have l1 := block_lt H1.out
      have HOW := Lib.hid how
      clear hp how
      go_wp2
      obtain ⟨wf, hwf⟩ : ∃ wf, wf = (wo.setCell ⟨b1, 0, none⟩ (.slice A2 (setS L).length c2)).setCell ⟨b1, 1, none⟩ (.slice B2 R.length d2) := ⟨_, rfl⟩
      have hbf : wf.heap[b1]? = some (.cells #[.slice A2 (setS L).length c2, .slice B2 R.length d2] 31 (0, 0)) := by
        have := heap_setCell_at (j := 1) (u := .slice B2 R.length d2) (heap_setCell_at (j := 0) (u := .slice A2 (setS L).length c2) H1.out)
        rw [hwf]
        exact this
      have hUf : Upd (fun b => b = b1) wo wf := by
        rw [hwf]
        exact upd_trans (fp := fun b => b = b1) (upd_setCell (a := ⟨b1, 0, none⟩) _) (upd_setCell (a := ⟨b1, 1, none⟩) _) (fun _ _ h => h)
      rw [← hwf]
      have t0 : wf.cell? ⟨b1, 0, none⟩ = some (.slice A2 (setS L).length c2) := block_cell hbf 0
      have t1 : wf.cell? ⟨b1, 1, none⟩ = some (.slice B2 R.length d2) := block_cell hbf 1
      refine bodyPost_ret (v := .agg #[.slice A2 (setS L).length c2, .slice B2 R.length d2]) (by simp [results, Tryd.results21, go_sem, t0, t1]) rfl ?_
      have ho := HOW.out
      rw [List.length_map] at ho
      exact ⟨_, _, rfl, own_low (own_upd ho hUf (fun b hb => by have := HX1.out; have : b = b1 := hb; omega)) (by have := HH.out; omega), ext_upd HE.out hUf (fun b hb => by have := HXB1.out; have : b = b1 := hb; omega)⟩
end Go.Proofs.YtniggdaakiofeaaDoor
