/- Unit; Good. -/
import Derived.Test.YtniggdaakiofeaaDoorSk
namespace Go.Proofs.YtniggdaakiofeaaDoor
open Go Go.RowKit Go.Sort
set_option maxHeartbeats 4000000

theorem eg71 (args : Array Value) (w : World) : (callFunc 71 args).run Tryd.prog w = .ok (.enter 71 args) w := enter_fn Tryd.func71 (by kernel_rfl) rfl args w
theorem eg73 (args : Array Value) (w : World) : (callFunc 73 args).run Tryd.prog w = .ok (.enter 73 args) w := enter_fn Tryd.func73 (by kernel_rfl) rfl args w
theorem goodG_any (n : Int) (w : World) : Calls Tryd.prog 73 #[.int .i64 n] w fun e w' => e = .returned (.bool (ltN n)) ∧ Ext w w' := by
  by_cases h : n < -1
  · have hl : ltN n = true := by simpa [ltN] using h
    rw [hl]
    clear hl
    go_enter Tryd.func73, Tryd.ntmps73
    go_wp2
    refine bodyPost_ret (results_tmp rfl _ _ _) rfl ?_
    exact ⟨rfl, ext_refl _⟩
  · have hl : ltN n = false := by simpa [ltN] using h
    rw [hl]
    clear hl
    go_enter Tryd.func73, Tryd.ntmps73
    go_wp2
    refine bodyPost_ret (results_tmp rfl _ _ _) rfl ?_
    exact ⟨rfl, ext_refl _⟩
theorem goodF_any (b : Nat) (rv rowv : Value) (n : Nat) (A : Option Addr) (c : Nat) (row : List Int) (w : World) (hb : w.heap[b]? = some (.cells #[.slice A n c, rv] 31 (0, 0))) (hr : RdI w rowv row) (hl : row.length ≤ 9223372036854775807) (hn : n ≤ 9223372036854775807) :
    Calls Tryd.prog 71 #[rowv, .pointer (some ⟨b, 0, none⟩)] w fun e w' => e = .returned (.bool (badRow n row)) ∧ Ext w w' := by
  have HC := Lib.hid (containsI_any 73 #[] eg73 row ltN rowv w hr (fun m w1 _ => goodG_any m w1) hl)
  obtain ⟨B, d, rfl⟩ := rdI_form hr
  have q0 : w.cell? ⟨b, 0, none⟩ = some (.slice A n c) := block_cell hb 0
  have lb := block_lt hb
  clear hr hb
  by_cases h : row.length = n
  · have hbn : badRow n row = row.any ltN := by simp [badRow, h]
    rw [hbn]
    obtain ⟨a, ha⟩ : ∃ a, a = row.any ltN := ⟨_, rfl⟩
    rw [← ha] at HC ⊢
    rw [h] at HC ⊢
    clear hbn ha h hl
    go_enter Tryd.func71, Tryd.ntmps71
    go_wp2_with (go_at_call 72; refine HC.out.mono ?_; rintro e w1 ⟨rfl, hE1⟩; have HE1 := Lib.hid hE1; clear hE1)
    refine bodyPost_ret (results_tmp rfl _ _ _) rfl ?_
    exact ⟨rfl, HE1.out⟩
  · have hbn : badRow n row = true := by simp [badRow, h]
    rw [hbn]
    have hne : ((row.length : Int) != (n : Int)) = true := by simp; omega
    clear hbn
    go_enter Tryd.func71, Tryd.ntmps71
    go_wp2
    refine bodyPost_ret (results_tmp rfl _ _ _) rfl ?_
    exact ⟨rfl, ext_refl _⟩
def okAt (V : List ByteArray) (i : Nat) : Bool := i == 0 || ltS (V.getD (i - 1) ⟨#[]⟩) (V.getD i ⟨#[]⟩)
theorem rise_no {V : List ByteArray} {j : Nat} {x y : ByteArray} (h0 : 0 < j) (hx : V[j - 1]? = some x) (hy : V[j]? = some y) (h : Op.bytesLess x.toList y.toList = false) : riseB V = false := by
  unfold riseB
  rw [List.all_eq_false]
  refine ⟨j, List.mem_range.2 (List.getElem?_eq_some_iff.1 hy).1, ?_⟩
  rw [List.getD_eq_getElem?_getD, List.getD_eq_getElem?_getD, hx, hy]
  have : (j == 0) = false := by simp; omega
  simp only [this, Option.getD_some, Bool.false_or]
  exact Bool.eq_false_iff.1 h
theorem ok_yes {V : List ByteArray} {j : Nat} {x y : ByteArray} (hx : V[j - 1]? = some x) (hy : V[j]? = some y) (h : Op.bytesLess x.toList y.toList = true) : okAt V j = true := by
  unfold okAt
  rw [List.getD_eq_getElem?_getD, List.getD_eq_getElem?_getD, hx, hy]
  simp only [Option.getD_some, Bool.or_eq_true]
  exact .inr h
theorem ok_no {V : List ByteArray} {j : Nat} {x y : ByteArray} (h0 : 0 < j) (hx : V[j - 1]? = some x) (hy : V[j]? = some y) (h : Op.bytesLess x.toList y.toList = false) : okAt V j = false := by
  unfold okAt
  rw [List.getD_eq_getElem?_getD, List.getD_eq_getElem?_getD, hx, hy]
  have : (j == 0) = false := by simp; omega
  simp only [this, Option.getD_some, Bool.false_or]
  exact h
theorem upto_next {f : Nat → Bool} {j : Nat} (h : ∀ i, i < j → f i = true) (hj : f j = true) : ∀ i, i < j + 1 → f i = true := fun i hi => by
  rcases Nat.lt_or_ge i j with h1 | h1
  · exact h i h1
  · obtain rfl : i = j := by omega
    exact hj
set_option maxRecDepth 100000 in
theorem good_any (tv : Value) (V : List ByteArray) (R : List (List Int)) (w : World) (h : TabV w tv V R) (hm : V.length ≤ 1000000) (hr : R.length ≤ 1000000) (hrl : ∀ x ∈ R, x.length ≤ 9223372036854775807) :
    Calls Tryd.prog 39 #[tv] w fun e w' => e = .returned (.bool (goodB V R)) ∧ Ext w w' := by
  obtain ⟨vv, rv, rfl, h1, h2⟩ := h
  obtain ⟨A, c, rfl⟩ := rdS_form h1
  obtain ⟨B, d, rfl⟩ := rdW_form h2
  have HV := Lib.hid h1
  have HW := Lib.hid h2
  have HRL := Lib.hid hrl
  have HH0 := Lib.hid (heap_alloc_new w (.cells #[.slice A V.length c, .slice B R.length d] 31))
  have HE0 := Lib.hid (ext_alloc (ext_refl w) (.cells #[.slice A V.length c, .slice B R.length d] 31))
  clear h1 h2 hrl
  go_enter Tryd.func39, Tryd.ntmps39
  go_wp2
  obtain ⟨w0, hw0⟩ : ∃ w0, w0 = w.alloc (.cells #[.slice A V.length c, .slice B R.length d] 31) := ⟨_, rfl⟩
  obtain ⟨b0, hb0⟩ : ∃ b0, b0 = w.heap.size := ⟨_, rfl⟩
  rw [← hw0, ← hb0] at HH0 ⊢
  rw [← hw0] at HE0
  clear hw0 hb0
  go_loopw [7] (fun z wr => ∃ j : Nat, j ≤ V.length ∧ z = .int .i64 j ∧ (∀ i, i < j → okAt V i = true) ∧ Ext w0 wr) (fun z _ => V.length - (intOf z).toNat)
  case atStart => exact ⟨0, Nat.zero_le _, rfl, fun i h => absurd h (Nat.not_lt_zero _), ext_refl _⟩
  case round =>
    rename World => wo
    obtain ⟨j, hj, rfl, hok, hE⟩ := hrel
    have HE := Lib.hid hE
    have HOK := Lib.hid hok
    have hbx := (ext_block HE.out (block_lt HH0.out)).trans HH0.out
    have q0 : wo.cell? ⟨b0, 0, none⟩ = some (.slice A V.length c) := block_cell hbx 0
    have q1 : wo.cell? ⟨b0, 1, none⟩ = some (.slice B R.length d) := block_cell hbx 1
    have l0 := block_lt hbx
    have HBX := Lib.hid hbx
    clear hE hok hbx
    by_cases hlt : j < V.length
    · have hji : (j : Int) < (V.length : Int) := by omega
      have hj0 : (0 : Int) ≤ (j : Int) := by omega
      by_cases hz : j = 0
      · subst hz
        have hgc := cell_grown
        go_wp2
        refine wp_region_free 16 [0, 1, 2, 3, 4, 5, 6, 7, 8, 9, 10, 11, 12, 13, 14, 15] [] (by kernel_rfl) (by kernel_rfl) ?_
        repeat (refine wpLoose_step rfl (fun K hK => ?_); (try simp only [Oper.quietAt, Oper.quietUpon]); go_simp; (refine hK _ ?_; clear hK K))
        refine wpLoose_nil (wpFresh_nil (fun w3 hE3 _ => ?_))
        have HE3 := Lib.hid (ext_trans HE.out hE3)
        clear hE3 q0 q1 l0 hgc
        simp only [List.drop_succ_cons, List.drop_zero]
        refine wpList_nil ?_
        go_wp2
        go_roundw
        case rel => exact ⟨1, by omega, by go_num, upto_next HOK.out rfl, HE3.out⟩
        case measure => simp [intOf]; omega
      · have hm1 : (1 : Int) ≤ (j : Int) := by omega
        have hjp : (0 : Int) < (j : Int) := by omega
        have hjn : 0 < j := by omega
        have hm2 : (j : Int) - 1 < (V.length : Int) := by omega
        have hmw : IntKind.i64.wrap ((j : Int) - 1) = (j : Int) - 1 := IntWalk.i64_in _ (by omega)
        have hmn : ((j : Int) - 1).toNat = j - 1 := by omega
        obtain ⟨x, hx⟩ : ∃ x, V[j - 1]? = some x := ⟨_, List.getElem?_eq_getElem (by omega)⟩
        obtain ⟨y, hy⟩ : ∃ y, V[j]? = some y := ⟨_, List.getElem?_eq_getElem hlt⟩
        have hvw := rdS_ext HV.out (ext_trans HE0.out HE.out)
        obtain ⟨b, off, rfl, hb, q2⟩ := rdS_at hvw hx
        obtain ⟨b', off', hbb, hb', q3⟩ := rdS_at hvw hy
        simp only [Option.some.injEq, Addr.mk.injEq, and_true] at hbb
        obtain ⟨rfl, rfl⟩ := hbb
        have HX := Lib.hid hx
        have HY := Lib.hid hy
        have HZ := Lib.hid hz
        clear hx hy hvw hz hb'
        have hls : Op.bytesLess x.toList y.toList = true ∨ Op.bytesLess x.toList y.toList = false := by cases Op.bytesLess x.toList y.toList <;> simp
        rcases hls with hls | hls
        · have hgc := cell_grown
          have HLS := Lib.hid hls
          go_wp2
          refine wp_region_free 16 [0, 1, 2, 3, 4, 5, 6, 7, 8, 9, 10, 11, 12, 13, 14, 15] [] (by kernel_rfl) (by kernel_rfl) ?_
          repeat (refine wpLoose_step rfl (fun K hK => ?_); (try simp only [Oper.quietAt, Oper.quietUpon]); go_simp; (refine hK _ ?_; clear hK K))
          refine wpLoose_nil (wpFresh_nil (fun w3 hE3 _ => ?_))
          have HE3 := Lib.hid (ext_trans HE.out hE3)
          clear hE3 q0 q1 q2 q3 l0 hgc
          simp only [List.drop_succ_cons, List.drop_zero]
          refine wpList_nil ?_
          go_wp2
          go_roundw
          case rel => exact ⟨j + 1, by omega, by go_num, upto_next HOK.out (ok_yes HX.out HY.out HLS.out), HE3.out⟩
          case measure => simp [intOf]; omega
        · have hgc := cell_grown
          have HLS := Lib.hid hls
          go_wp2
          refine wp_region_free 16 [0, 1, 2, 3, 4, 5, 6, 7, 8, 9, 10, 11, 12, 13, 14, 15] [] (by kernel_rfl) (by kernel_rfl) ?_
          repeat (refine wpLoose_step rfl (fun K hK => ?_); (try simp only [Oper.quietAt, Oper.quietUpon]); go_simp; (refine hK _ ?_; clear hK K))
          refine wpLoose_nil (wpFresh_nil (fun w3 hE3 _ => ?_))
          have HE3 := Lib.hid (ext_trans HE0.out (ext_trans HE.out hE3))
          clear hE3 q0 q1 q2 q3 l0 hgc
          simp only [List.drop_succ_cons, List.drop_zero]
          refine wpList_nil ?_
          go_wp2
          refine bodyPost_ret (results_tmp rfl _ _ _) rfl ?_
          refine ⟨?_, HE3.out⟩
          have hr := rise_no (by have := HZ.out; omega) HX.out HY.out HLS.out
          unfold goodB
          rw [hr]; rfl
    · obtain rfl : j = V.length := by omega
      have hrise : riseB V = true := by
        unfold riseB
        rw [List.all_eq_true]
        exact fun i hi => HOK.out i (List.mem_range.1 hi)
      have hgd : goodB V R = !R.any (badRow V.length) := by unfold goodB; rw [hrise, Bool.true_and]
      have HGD := Lib.hid hgd
      have HC := Lib.hid (containsW_any 71 #[.pointer (some ⟨b0, 0, none⟩)] eg71 R (badRow V.length) (.slice B R.length d) wo (rdW_ext HW.out (ext_trans HE0.out HE.out)) (fun x hx v w1 hE1 hv1 => goodF_any b0 _ v V.length A c x w1 ((ext_block hE1 (block_lt HBX.out)).trans HBX.out) hv1 (HRL.out x hx) (by omega)) (by omega))
      obtain ⟨a, ha⟩ : ∃ a, a = R.any (badRow V.length) := ⟨_, rfl⟩
      rw [← ha] at HC HGD
      clear hrise hgd ha
      go_wp2_with (go_at_call 70; refine HC.out.mono ?_; rintro e w1 ⟨rfl, hE1⟩; have HE1 := Lib.hid (ext_trans HE0.out (ext_trans HE.out hE1)); clear hE1)
      refine bodyPost_ret (results_tmp rfl _ _ _) rfl ?_
      exact ⟨by rw [HGD.out]; rfl, HE1.out⟩

theorem oneF_row {α : Type} {E : El α} {H : Nat} {x : α} {v : Value} {w : World} (h : oneF E H x v w) : rowF E H [x] v w := by
  obtain ⟨g, rfl, hH, hg⟩ := h
  refine ⟨⟨by rw [flatE_length], .inr ⟨g, 1, (E.enc x).toArray, rfl, Nat.zero_le _, hg, Nat.le_refl _, by unfold maxLen; omega, by simp [E.hl], ?_⟩⟩, fun b hb => by cases hb; exact hH⟩
  rw [flatE_single, List.length_singleton, Nat.one_mul]
  exact List.take_of_length_le (by simp [E.hl])
set_option maxRecDepth 100000 in
theorem unit_any (w : World) : Calls Tryd.prog 18 #[] w fun e w' => ∃ vv rv, e = .returned (.agg #[vv, rv]) ∧ Own w.heap.size w' vv rv [] [[]] ∧ Ext w w' := by
  obtain ⟨h0, h1, h2⟩ := heap_three w (.cells #[.slice none 0 0, .slice (some ⟨w.heap.size + 1 + 1, 0, none⟩) 1 1] 31) (.cells #[] 3) (.cells #[.slice (some ⟨w.heap.size + 1, 0, none⟩) 0 0] 41)
  have hE := ext_alloc (ext_alloc (ext_alloc (ext_refl w) (.cells #[.slice none 0 0, .slice (some ⟨w.heap.size + 1 + 1, 0, none⟩) 1 1] 31)) (.cells #[] 3)) (.cells #[.slice (some ⟨w.heap.size + 1, 0, none⟩) 0 0] 41)
  obtain ⟨W, hW⟩ : ∃ W, W = ((w.alloc (.cells #[.slice none 0 0, .slice (some ⟨w.heap.size + 1 + 1, 0, none⟩) 1 1] 31)).alloc (.cells #[] 3)).alloc (.cells #[.slice (some ⟨w.heap.size + 1, 0, none⟩) 0 0] 41) := ⟨_, rfl⟩
  rw [← hW] at h0 h1 h2 hE
  have HW := Lib.hid hW
  clear hW
  have HH0 := Lib.hid h0
  have HH1 := Lib.hid h1
  have HH2 := Lib.hid h2
  have HE := Lib.hid hE
  clear h0 h1 h2 hE
  go_enter Tryd.func18, Tryd.ntmps18
  go_wp2
  rw [← HW.out]
  have q0 : W.cell? ⟨w.heap.size, 0, none⟩ = some (.slice none 0 0) := block_cell HH0.out 0
  have q1 : W.cell? ⟨w.heap.size, 1, none⟩ = some (.slice (some ⟨w.heap.size + 1 + 1, 0, none⟩) 1 1) := block_cell HH0.out 1
  refine bodyPost_ret (v := .agg #[.slice none 0 0, .slice (some ⟨w.heap.size + 1 + 1, 0, none⟩) 1 1]) (by simp [results, Tryd.results18, go_sem, q0, q1]) rfl ?_
  refine ⟨_, _, rfl, ⟨rowF_nil _ _, [((some ⟨w.heap.size + 1, 0, none⟩, 0, 0) : Sl)], oneF_row ⟨w.heap.size + 2, rfl, by omega, HH2.out⟩, rfl, fun i s x hs hx => ?_⟩, HE.out⟩
  cases i with
  | zero =>
    simp at hs hx
    subst hs hx
    exact noneF_row ⟨w.heap.size + 1, rfl, by omega, HH1.out⟩
  | succ i => simp at hs
end Go.Proofs.YtniggdaakiofeaaDoor
