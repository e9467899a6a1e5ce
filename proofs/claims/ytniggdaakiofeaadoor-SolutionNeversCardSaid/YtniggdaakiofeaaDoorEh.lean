/- The document's Minus. -/
import Derived.Test.YtniggdaakiofeaaDoorEk
namespace Go.Proofs.YtniggdaakiofeaaDoor
open Go Go.RowKit Go.Sort
set_option maxHeartbeats 8000000
/- of this seat alone: 80 -/

/-- a document's table that is being built, its rows in some blocks alone -/
structure DK (ok : Nat → Prop) (b0 b2 p : Nat) (ca : Array Value) (VV : List ByteArray) (T : List (List VarN)) (w wr : World) : Prop where
  tab : TDB ok wr p VV T
  a : wr.heap[b0]? = some (.cells ca 34 (0, 0))
  r : wr.heap[b2]? = some (.cells #[.slice none 0 0, .slice none 0 0] 34 (0, 0))
  size : p < wr.heap.size
  ext : Ext w wr
theorem DK.on {ok : Nat → Prop} {b0 b2 p : Nat} {ca : Array Value} {VV : List ByteArray} {T : List (List VarN)} {w wr w' : World} (h : DK ok b0 b2 p ca VV T w wr) (hE : Ext wr w') : DK ok b0 b2 p ca VV T w w' :=
  ⟨tDB_ext h.tab hE, (ext_block hE (block_lt h.a)).trans h.a, (ext_block hE (block_lt h.r)).trans h.r, Nat.lt_of_lt_of_le h.size (ext_size hE), ext_trans h.ext hE⟩
theorem DK.more {ok : Nat → Prop} {b0 b2 p : Nat} {ca : Array Value} {VV : List ByteArray} {T T' : List (List VarN)} {w wr w' : World} {fp : Nat → Prop} (h : DK ok b0 b2 p ca VV T w wr) (hT : TDB ok w' p VV T') (hU : Upd fp wr w') (hfp : ∀ b, fp b → p ≤ b) (hb : b0 < p ∧ b2 < p ∧ w.heap.size ≤ p) : DK ok b0 b2 p ca VV T' w w' :=
  ⟨hT, (hU.block b0 (block_lt h.a) (fun e => by have := hfp _ e; omega)).trans h.a, (hU.block b2 (block_lt h.r) (fun e => by have := hfp _ e; omega)).trans h.r, Nat.lt_of_lt_of_le h.size hU.size, ext_upd h.ext hU (fun b hb' => by have := hfp _ hb'; omega)⟩
theorem tDB_re {ok ok' : Nat → Prop} {w : World} {p : Nat} {V : List ByteArray} {T : List (List VarN)} (h : TDB ok w p V T) (hh : ∀ g, ok g → g < w.heap.size → ok' g) : TDB ok' w p V T := by
  obtain ⟨vv, rv, sl, t1, t2, t3, t4⟩ := h
  exact ⟨vv, rv, sl, t1, t2, ⟨t3.1, fun g hg => hh g (t3.2 g hg) (by obtain ⟨_, _, hc⟩ := rowE_block t3.1 hg; exact block_lt hc)⟩, t4⟩
theorem DK.re {ok ok' : Nat → Prop} {b0 b2 p : Nat} {ca : Array Value} {VV : List ByteArray} {T : List (List VarN)} {w wr : World} (h : DK ok b0 b2 p ca VV T w wr) (hh : ∀ g, ok g → g < wr.heap.size → ok' g) : DK ok' b0 b2 p ca VV T w wr := ⟨tDB_re h.tab hh, h.a, h.r, h.size, h.ext⟩
theorem rowsQ_take {w : World} {sl : List Sl} {M : List (List VarN)} (i : Nat) (h : RowsQ w sl M) : RowsQ w (sl.take i) (M.take i) := ⟨by rw [List.length_take, List.length_take, h.1], fun k s r hs hr => by
  rw [List.getElem?_take] at hs hr
  split at hs <;> rename_i hc
  · rw [if_pos hc] at hr; exact h.2 k s r hs hr
  · cases hs⟩
theorem rowsQ_drop {w : World} {sl : List Sl} {M : List (List VarN)} (i : Nat) (h : RowsQ w sl M) : RowsQ w (sl.drop i) (M.drop i) := ⟨by rw [List.length_drop, List.length_drop, h.1], fun k s r hs hr => by
  rw [List.getElem?_drop] at hs hr
  exact h.2 _ s r hs hr⟩
/-- what is left of some rows: how they lie, and how often each stands -/
structure GG (w : World) (gv : Value) (sl : List Sl) (G N M : List (List VarN)) (j : Nat) : Prop where
  row : rowE elQ w gv sl
  rows : RowsQ w sl G
  many : ∀ x, cnt G x = cnt N x - cnt (M.take j) x
  len : G.length ≤ 100000
  each : ∀ t ∈ G, t.length ≤ 1000000
theorem GG.on {w w' : World} {gv : Value} {sl : List Sl} {G N M : List (List VarN)} {j : Nat} (h : GG w gv sl G N M j) (hE : Ext w w') : GG w' gv sl G N M j := ⟨rowE_ext h.row hE, rowsQ_ext h.rows hE, h.many, h.len, h.each⟩

set_option maxRecDepth 100000 in
theorem rminus_any (avv arv bvv brv : Value) (VV V : List ByteArray) (M N : List (List VarN)) (w : World) (ha : TD w (.agg #[avv, arv]) VV M) (hb : TD w (.agg #[bvv, brv]) V N) (hu : VV.length ≤ 40000) (hm : V.length ≤ 40000) (hr : M.length ≤ 100000) (hs : N.length ≤ 100000) (hrl : ∀ r ∈ M, r.length ≤ 1000000) (hsl2 : ∀ r ∈ N, r.length ≤ 1000000)
    (N' : List (List VarN)) (hN' : (VV = V ∧ N' = N) ∨ (VV ≠ V ∧ N' = [])) :
    Calls Tryd.prog 19 #[.agg #[avv, arv], .agg #[bvv, brv]] w fun e w' => ∃ vv rv, e = .returned (.agg #[vv, rv]) ∧ TD w' (.agg #[vv, rv]) VV (minusQ N' M) ∧ Ext w w' := by
  obtain ⟨a1, a2⟩ := tD_parts ha
  obtain ⟨a3, a4⟩ := tD_parts hb
  obtain ⟨sl', a7, a8⟩ := a4
  obtain ⟨A1, c1, rfl⟩ := rowE_form a1
  obtain ⟨A2, c2, rfl⟩ := rdQ_form a2
  obtain ⟨A3, c3, rfl⟩ := rowE_form a3
  obtain ⟨A4, c4, rfl⟩ := rowE_form a7
  have HA1 := Lib.hid a1
  have HA2 := Lib.hid a2
  have HA3 := Lib.hid a3
  have HA7 := Lib.hid a7
  have HA8 := Lib.hid a8
  have hsl := a8.1
  have HR := Lib.hid hrl
  have HS := Lib.hid hsl2
  have HSL := Lib.hid hsl
  have hl2 : sl'.length ≤ 100000 := by rw [hsl]; exact hs
  clear ha hb a1 a2 a3 a7 a8 hrl hsl2 hsl
  obtain ⟨h0, h1, h2⟩ := heap_three w (.cells #[.slice A1 VV.length c1, .slice A2 M.length c2] 34) (.cells #[.slice A3 V.length c3, .slice A4 sl'.length c4] 34) (.cells #[.slice none 0 0, .slice none 0 0] 34)
  obtain ⟨W, hW⟩ : ∃ W, W = ((w.alloc (.cells #[.slice A1 VV.length c1, .slice A2 M.length c2] 34)).alloc (.cells #[.slice A3 V.length c3, .slice A4 sl'.length c4] 34)).alloc (.cells #[.slice none 0 0, .slice none 0 0] 34) := ⟨_, rfl⟩
  obtain ⟨b0, hb0⟩ : ∃ b, b = w.heap.size := ⟨_, rfl⟩
  obtain ⟨b1, hb1⟩ : ∃ b, b = w.heap.size + 1 := ⟨_, rfl⟩
  obtain ⟨b2, hb2⟩ : ∃ b, b = w.heap.size + 1 + 1 := ⟨_, rfl⟩
  have HE0 := Lib.hid (show Ext w W by rw [hW]; exact ext_alloc (ext_alloc (ext_alloc (ext_refl _) _) _) _)
  rw [← hW, ← hb0] at h0
  rw [← hW, ← hb1] at h1
  rw [← hW, show w.heap.size + 2 = b2 by rw [hb2]] at h2
  have H0 := Lib.hid h0
  have H1 := Lib.hid h1
  have H2 := Lib.hid h2
  have HB2 := Lib.hid (show w.heap.size ≤ b2 by omega)
  have HBW := Lib.hid (show b0 < W.heap.size ∧ b2 < W.heap.size ∧ w.heap.size ≤ W.heap.size by rw [hW]; simp; omega)
  have q0 : W.cell? ⟨b0, 0, none⟩ = some (.slice A1 VV.length c1) := block_cell h0 0
  have q3 : W.cell? ⟨b1, 1, none⟩ = some (.slice A4 sl'.length c4) := block_cell h1 1
  have l0 := block_lt h0
  have l1 := block_lt h1
  clear h0 h1 h2
  go_enter Tryd.func19, Tryd.ntmps19
  go_wp2_with (at_builtin; refine halt_here ?_)
  have hWS : W.heap.size = w.heap.size + 1 + 1 + 1 := by rw [hW]; simp
  rw [← hW, ← hWS, ← hb2, ← hb1, ← hb0]
  clear hW hb0 hb1 hb2 hWS
  refine go_on ?_
  refine wpList_append rfl (.tmp 11) (.tmp 13) rfl _ _ rfl rfl (fun v' w' => Ext (W.alloc (.cells #[] 52)) w' ∧ rowF elQ W.heap.size sl' v' w') (append_copy tpQ _ W.heap.size _ _ sl' _ ⟨W.heap.size, rfl, Nat.le_refl _, heap_alloc_new W _⟩ (srcOf_ext (ext_trans HE0.out (ext_alloc (ext_refl _) _)) (srcOf_row HA7.out)) (by omega)) ?_
  rintro v5 w5 ⟨hE5, hR5⟩
  obtain ⟨A6, c6, rfl⟩ := rowE_form hR5.1
  have HE5 := Lib.hid (ext_trans (ext_alloc (ext_refl W) (.cells #[] 52)) hE5)
  have HR5 := Lib.hid hR5
  have hE5 := HE5.out
  have r0 : w5.cell? ⟨b0, 0, none⟩ = some (.slice A1 VV.length c1) := (ext_cell hE5 _ _ l0).trans q0
  have m0 := ext_lt hE5 l0
  have r1 : w5.cell? ⟨b1, 0, none⟩ = some (.slice A3 V.length c3) := (ext_cell hE5 _ _ l1).trans (block_cell H1.out 0)
  have m1 := ext_lt hE5 l1
  clear hE5 hR5 q0 q3 l0 l1
  obtain ⟨p, hp⟩ : ∃ b, b = w5.heap.size := ⟨_, rfl⟩
  obtain ⟨W2, hW2⟩ : ∃ W2, W2 = w5.alloc (.cells #[.slice A1 VV.length c1, .slice none 0 0] 34) := ⟨_, rfl⟩
  have hE2W : Ext w5 W2 := by rw [hW2]; exact ext_alloc (ext_refl _) _
  have hE3 := ext_trans HE5.out hE2W
  have hbp : W2.heap[p]? = some (.cells #[.slice A1 VV.length c1, .slice none 0 0] 34 (0, 0)) := by rw [hW2, hp]; exact heap_alloc_new w5 _
  have HJ := Lib.hid (show DK (fun g => p ≤ g) b0 b2 p #[.slice A1 VV.length c1, .slice A2 M.length c2] VV [] w W2 from ⟨⟨_, _, [], hbp, rowE_ext HA1.out (ext_trans HE0.out hE3), ⟨rowE_nil _, fun g hg => by cases hg⟩, rowsQ_nil _⟩, (ext_block hE3 (block_lt H0.out)).trans H0.out, (ext_block hE3 (block_lt H2.out)).trans H2.out, block_lt hbp, ext_trans HE0.out hE3⟩)
  have HJ1 := Lib.hid ((ext_block hE3 (block_lt H1.out)).trans H1.out)
  have HGR := Lib.hid (rowE_ext HR5.out.1 hE2W)
  have HGB := Lib.hid (show ∀ g, (Value.slice A6 sl'.length c6).ownBlock = some g → g < p from fun g hg => by obtain ⟨_, _, hc⟩ := rowE_block HR5.out.1 hg; rw [hp]; exact block_lt hc)
  have HBD := Lib.hid (show b0 < p ∧ b2 < p ∧ w.heap.size ≤ p from by have := HBW.out; have := ext_size HE5.out; omega)
  have HA3W := Lib.hid (rowE_ext HA3.out (ext_trans HE0.out hE3))
  have HA1W := Lib.hid (rowE_ext HA1.out (ext_trans HE0.out hE3))
  by_cases hle : VV.length = V.length
  · have hz : ((VV.length : Int) != (V.length : Int)) = false := by rw [hle]; simp
    have HLE := Lib.hid hle
    clear hle
    go_wp2
    try rw [← hW2]
    try rw [← hp]
    clear r0 m0 r1 m1 hE2W hE3 hW2 hp hbp H0 H1 H2 HE0 HE5 HR5 HBW
    go_loopw [28, 5] (fun x f wr => ∃ i : Nat, i ≤ VV.length ∧ x = .int .i64 i ∧ (∃ fv : Value, fv = f ∧ ((fv = (.slice A6 sl'.length c6) ∧ VV.take i = V.take i ∧ VV.length = V.length) ∨ (fv = .slice none 0 0 ∧ VV ≠ V))) ∧ Ext W2 wr) (fun x _ _ => VV.length - (intOf x).toNat)
    case atStart => exact ⟨0, Nat.zero_le _, rfl, ⟨_, rfl, .inl ⟨rfl, by simp, HLE.out⟩⟩, ext_refl _⟩
    case round =>
      rename World => wo
      obtain ⟨i, hi, rfl, ⟨f, rfl, hf⟩, hE⟩ := hrel
      have HE := Lib.hid hE
      clear hE
      by_cases hlt : i < VV.length
      · have hji : (i : Int) < (VV.length : Int) := by omega
        have hj0 : (0 : Int) ≤ (i : Int) := by omega
        obtain ⟨x, hx⟩ : ∃ x, VV[i]? = some x := ⟨_, List.getElem?_eq_getElem hlt⟩
        obtain ⟨g, rfl, hg⟩ := rowE_some HA1W.out (fun e => by rw [e] at hx; simp at hx)
        have HX := Lib.hid hx
        have q2 := rowS_cell (rowE_ext HA1W.out HE.out) hx
        have l2 := ext_lt HE.out hg
        clear hx hg
        have q0 : wo.cell? ⟨b0, 0, none⟩ = some (.slice (some ⟨g, 0, none⟩) VV.length c1) := (ext_cell HE.out _ _ (block_lt HJ.out.a)).trans (block_cell HJ.out.a 0)
        have q1 : wo.cell? ⟨b1, 0, none⟩ = some (.slice A3 V.length c3) := (ext_cell HE.out _ _ (block_lt HJ1.out)).trans (block_cell HJ1.out 0)
        have l0 := ext_lt HE.out (block_lt HJ.out.a)
        have l1 := ext_lt HE.out (block_lt HJ1.out)
        have hgc := cell_grown
        by_cases hkt : i < V.length
        · have hki : (i : Int) < (V.length : Int) := by omega
          have hkd : decide ((i : Int) < (V.length : Int)) = true := decide_eq_true hki
          obtain ⟨y, hy⟩ : ∃ y, V[i]? = some y := ⟨_, List.getElem?_eq_getElem hkt⟩
          obtain ⟨g', rfl, hg'⟩ := rowE_some HA3W.out (fun e => by rw [e] at hy; simp at hy)
          have HY := Lib.hid hy
          have q3 := rowS_cell (rowE_ext HA3W.out HE.out) hy
          have l3 := ext_lt HE.out hg'
          clear hy hg'
          by_cases hxy : x = y
          · have hne := str_eq hxy
            have HXY := Lib.hid hxy
            clear hxy
            rcases hf with ⟨rfl, hf1, hf2⟩ | ⟨rfl, hf1⟩
            · have HF1 := Lib.hid hf1
              have HF2 := Lib.hid hf2
              clear hf1 hf2
              go_wp2
              refine wp_region_free 18 [0, 1, 2, 3, 4, 5, 6, 7, 8, 9, 10, 11, 12, 13, 14, 15, 16, 17] [] (by kernel_rfl) (by kernel_rfl) ?_
              repeat (refine wpLoose_step rfl (fun K hK => ?_); (try simp only [Oper.quietAt, Oper.quietUpon]); go_simp; (refine hK _ ?_; clear hK K))
              refine wpLoose_nil (wpFresh_nil (fun w3 hE3 _ => ?_))
              have HE3 := Lib.hid (ext_trans HE.out hE3)
              clear hE3 q0 q1 l0 l1 hgc q2 q3 l2 l3 hne
              simp only [List.drop_succ_cons, List.drop_zero]
              refine wpList_nil ?_
              go_wp2
              go_roundw
              case rel => exact ⟨i + 1, by omega, by go_num, ⟨_, rfl, .inl ⟨rfl, by rw [List.take_add_one, List.take_add_one, HX.out, HY.out, HF1.out, HXY.out], HF2.out⟩⟩, HE3.out⟩
              case measure => simp [intOf]; omega
            · have HF1 := Lib.hid hf1
              clear hf1
              go_wp2
              refine wp_region_free 18 [0, 1, 2, 3, 4, 5, 6, 7, 8, 9, 10, 11, 12, 13, 14, 15, 16, 17] [] (by kernel_rfl) (by kernel_rfl) ?_
              repeat (refine wpLoose_step rfl (fun K hK => ?_); (try simp only [Oper.quietAt, Oper.quietUpon]); go_simp; (refine hK _ ?_; clear hK K))
              refine wpLoose_nil (wpFresh_nil (fun w3 hE3 _ => ?_))
              have HE3 := Lib.hid (ext_trans HE.out hE3)
              clear hE3 q0 q1 l0 l1 hgc q2 q3 l2 l3 hne
              simp only [List.drop_succ_cons, List.drop_zero]
              refine wpList_nil ?_
              go_wp2
              go_roundw
              case rel => exact ⟨i + 1, by omega, by go_num, ⟨_, rfl, .inr ⟨rfl, HF1.out⟩⟩, HE3.out⟩
              case measure => simp [intOf]; omega
          · have hne := str_ne hxy
            have HF1 := Lib.hid (show VV ≠ V from fun e => hxy (by have h1 := HX.out; rw [e, HY.out] at h1; exact (Option.some.inj h1).symm))
            clear hf hxy
            go_wp2
            refine wp_region_free 18 [0, 1, 2, 3, 4, 5, 6, 7, 8, 9, 10, 11, 12, 13, 14, 15, 16, 17] [] (by kernel_rfl) (by kernel_rfl) ?_
            repeat (refine wpLoose_step rfl (fun K hK => ?_); (try simp only [Oper.quietAt, Oper.quietUpon]); go_simp; (refine hK _ ?_; clear hK K))
            refine wpLoose_nil (wpFresh_nil (fun w3 hE3 _ => ?_))
            have HE3 := Lib.hid (ext_trans HE.out hE3)
            clear hE3 q0 q1 l0 l1 hgc q2 q3 l2 l3 hne
            simp only [List.drop_succ_cons, List.drop_zero]
            refine wpList_nil ?_
            go_wp2
            go_roundw
            case rel => exact ⟨i + 1, by omega, by go_num, ⟨_, rfl, .inr ⟨rfl, HF1.out⟩⟩, HE3.out⟩
            case measure => simp [intOf]; omega
        · have hki : ¬ (i : Int) < (V.length : Int) := by omega
          have hkd : decide ((i : Int) < (V.length : Int)) = false := decide_eq_false hki
          rcases hf with ⟨rfl, hf1, hf2⟩ | ⟨rfl, hf1⟩
          · exact absurd hlt (by omega)
          · have HF1 := Lib.hid hf1
            clear hf1
            go_wp2
            refine wp_region_free 18 [0, 1, 2, 3, 4, 5, 6, 7, 8, 9, 10, 11, 12, 13, 14, 15, 16, 17] [] (by kernel_rfl) (by kernel_rfl) ?_
            repeat (refine wpLoose_step rfl (fun K hK => ?_); (try simp only [Oper.quietAt, Oper.quietUpon]); go_simp; (refine hK _ ?_; clear hK K))
            refine wpLoose_nil (wpFresh_nil (fun w3 hE3 _ => ?_))
            have HE3 := Lib.hid (ext_trans HE.out hE3)
            clear hE3 q0 q1 l0 l1 hgc q2 l2
            simp only [List.drop_succ_cons, List.drop_zero]
            refine wpList_nil ?_
            go_wp2
            go_roundw
            case rel => exact ⟨i + 1, by omega, by go_num, ⟨_, rfl, .inr ⟨rfl, HF1.out⟩⟩, HE3.out⟩
            case measure => simp [intOf]; omega
      · obtain rfl : i = VV.length := by omega
        obtain ⟨sl0, G0, hGG, hgb⟩ : ∃ sl G, GG wo f sl G N' M 0 ∧ ∀ g, f.ownBlock = some g → g < p := by
          rcases hf with ⟨rfl, hf1, hf2⟩ | ⟨rfl, hf1⟩
          · have hVV : VV = V := by rw [List.take_length, hf2, List.take_length] at hf1; exact hf1
            have hNN : N' = N := hN'.elim (fun h => h.2) (fun h => absurd hVV h.1)
            refine ⟨sl', N, ⟨rowE_ext HGR.out HE.out, rowsQ_ext HA8.out (ext_trans HJ.out.ext HE.out), fun x => by rw [hNN]; simp [cnt], hs, HS.out⟩, HGB.out⟩
          · have hNN : N' = [] := hN'.elim (fun h => absurd h.1 hf1) (fun h => h.2)
            exact ⟨[], [], ⟨rowE_nil _, rowsQ_nil _, fun x => by rw [hNN]; simp [cnt], by simp, fun t h => by cases h⟩, fun g h => by cases h⟩
        have HGG := Lib.hid hGG
        have HJ0 := Lib.hid ((HJ.out.on HE.out).re (ok' := fun g => p ≤ g ∧ ¬ f.ownBlock = some g) (fun g h _ => ⟨h, fun e => by have := hgb g e; omega⟩))
        have q1 : wo.cell? ⟨b0, 1, none⟩ = some (.slice A2 M.length c2) := block_cell HJ0.out.a 1
        have l1 := block_lt HJ0.out.a
        have HGB0 := Lib.hid hGG.row
        clear hf hGG hgb HE hN'
        obtain ⟨A7, c7, rfl⟩ := rowE_form HGB0.out
        go_wp2
        clear q1 l1 HGB0
        go_loopw [53, 5] (fun x f wr => ∃ j : Nat, j ≤ M.length ∧ x = .int .i64 j ∧ (∃ fv : Value, fv = f ∧ ∃ sl G, GG wr fv sl G N' M j ∧ DK (fun g => p ≤ g ∧ ¬ fv.ownBlock = some g) b0 b2 p #[.slice A1 VV.length c1, .slice A2 M.length c2] VV (keepG (okQ N' M) M j) w wr)) (fun x _ _ => M.length - (intOf x).toNat)
        case atStart => exact ⟨0, Nat.zero_le _, rfl, _, rfl, _, _, HGG.out, HJ0.out⟩
        case round =>
          rename World => wo
          obtain ⟨j, hj, rfl, fv, rfl, slg, G, hG, hJ⟩ := hrel
          have HG0 := Lib.hid hG
          have HJ2 := Lib.hid hJ
          obtain ⟨A6, c6, rfl⟩ := rowE_form hG.row
          clear hG hJ HGG HJ0 hlt hi
          by_cases hlt : j < M.length
          · have hji : (j : Int) < (M.length : Int) := by omega
            have hj0 : (0 : Int) ≤ (j : Int) := by omega
            obtain ⟨r, hr'⟩ : ∃ r, M[j]? = some r := ⟨_, List.getElem?_eq_getElem hlt⟩
            have HX := Lib.hid hr'
            have HXL := Lib.hid (HR.out r (List.mem_of_getElem? hr'))
            obtain ⟨b, B', d', hGb, hb, hc, hri⟩ := rdQ_at HA2.out hr'
            subst hGb
            have HRI := Lib.hid hri
            have HBB := Lib.hid hb
            have HBC := Lib.hid hc
            obtain ⟨T, hT⟩ : ∃ T, T = keepG (okQ N' M) M j := ⟨_, rfl⟩
            have hTl : T.length ≤ 100000 := by rw [hT]; have := keepG_len (okQ N' M) M j; omega
            have HTE := Lib.hid hT
            rw [← hT] at HJ2
            have HGL := Lib.hid (show slg.length = G.length from HG0.out.rows.1)
            have hsl : slg.length ≤ 100000 := by rw [HGL.out]; exact HG0.out.len
            have HQ := Lib.hid (show RdQ wo (.slice A6 slg.length c6) G from ⟨slg, HG0.out.row, HG0.out.rows⟩)
            clear hr' hri hb hc hT
            go_wp2
            go_loopw [58, 9] (fun y a wr => ∃ k : Nat, k ≤ slg.length ∧ y = .int .i64 k ∧ (∃ m : Int, a = .int .i64 m ∧ ((m = -1 ∧ r ∉ G.take k) ∨ (∃ i : Nat, m = i ∧ i < k ∧ G[i]? = some r))) ∧ Ext wo wr) (fun y _ _ => slg.length - (intOf y).toNat)
            case atStart => exact ⟨0, Nat.zero_le _, rfl, ⟨-1, rfl, .inl ⟨rfl, by simp⟩⟩, ext_refl _⟩
            case round =>
              rename World => wi
              obtain ⟨k, hk, rfl, ⟨m, rfl, hm'⟩, hEi⟩ := hrel
              have HAT := Lib.hid hm'
              have HEI := Lib.hid hEi
              have HJ3 := Lib.hid (HJ2.out.on hEi)
              have HG := Lib.hid (HG0.out.on hEi)
              clear hm' hEi
              by_cases hkt : k < slg.length
              · have hki : (k : Int) < (slg.length : Int) := by omega
                have hk0 : (0 : Int) ≤ (k : Int) := by omega
                obtain ⟨t, ht⟩ : ∃ t, G[k]? = some t := ⟨_, List.getElem?_eq_getElem (by rw [← HGL.out]; exact hkt)⟩
                have HT := Lib.hid ht
                have HTL := Lib.hid (HG.out.each t (List.mem_of_getElem? ht))
                obtain ⟨g, B9, d9, hg1, hg2, hg3, hg4⟩ := rdQ_at HQ.out ht
                subst hg1
                have HG4 := Lib.hid hg4
                have CC := Lib.hid (show ∀ w', Ext wi w' → Calls Tryd.prog 52 #[.slice B9 t.length d9, .slice B' r.length d'] w' (fun e w'' => e = .returned (.bool (decide (t = r))) ∧ Ext w' w'') from fun w' hE => rsame_any _ _ t r w' (rowE_ext HG4.out (ext_trans HEI.out hE)) (rowE_ext HRI.out (ext_trans HJ3.out.ext hE)) HTL.out HXL.out)
                obtain ⟨cb, hcb⟩ : ∃ cb, cb = decide (t = r) := ⟨_, rfl⟩
                rw [← hcb] at CC
                have HCB := Lib.hid hcb
                have q2 : wi.cell? ⟨b0, 1, none⟩ = some (.slice (some ⟨b, 0, none⟩) M.length c2) := block_cell HJ3.out.a 1
                have l2 := block_lt HJ3.out.a
                have q3 := (ext_cell HEI.out _ _ hg2).trans hg3
                have l3 := ext_lt HEI.out hg2
                have q4 := (ext_cell HJ3.out.ext _ _ HBB.out).trans HBC.out
                have l4 := ext_lt HJ3.out.ext HBB.out
                clear ht hg2 hg3 hg4 hcb
                have hgc := cell_grown
                go_wp2
                refine wp_region_free 10 [0, 1, 2, 3, 4, 5, 6, 7, 8, 9] [] (by kernel_rfl) (by kernel_rfl) ?_
                repeat (refine wpLoose_step rfl (fun K hK => ?_); (try simp only [Oper.quietAt, Oper.quietUpon]); go_simp; first | (refine hK _ ?_; clear hK K) | (apply Exists.intro; refine ⟨fun p => ?_, hK _ ?_⟩; (go_at_call 52; exact CC.out _ (ext_grow (ext_refl _) _ _)); clear hK K))
                refine wpLoose_nil (wpFresh_nil (fun w3 hE3 _ => ?_))
                have HE3 := Lib.hid (ext_trans HEI.out hE3)
                clear hE3 q2 q3 q4 l2 l3 l4 hgc
                simp only [List.drop_succ_cons, List.drop_zero]
                refine wpList_nil ?_
                cases cb
                · go_wp2
                  go_roundw
                  case rel => exact ⟨k + 1, by omega, by go_num, ⟨m, rfl, HAT.out.elim (fun h => .inl ⟨h.1, by
                    rw [List.take_add_one, HT.out, List.mem_append]
                    exact fun hh => hh.elim h.2 (fun e => (of_decide_eq_false HCB.out.symm) (by rw [Option.toList_some, List.mem_singleton] at e; exact e.symm))⟩) (fun ⟨i, h1, h2, h3⟩ => .inr ⟨i, h1, by omega, h3⟩)⟩, HE3.out⟩
                  case measure => simp [intOf]; omega
                · go_wp2
                  go_roundw
                  case rel => exact ⟨k + 1, by omega, by go_num, ⟨k, rfl, .inr ⟨k, rfl, by omega, by rw [HT.out, of_decide_eq_true HCB.out.symm]⟩⟩, HE3.out⟩
                  case measure => simp [intOf]; omega
              · obtain rfl : k = slg.length := by omega
                rcases HAT.out with ⟨rfl, hno⟩ | ⟨i, rfl, hi, hgi⟩
                · have HAN := Lib.hid (show r ∉ G by rw [HGL.out, List.take_length] at hno; exact hno)
                  have HOK := Lib.hid (show okQ N' M j = true from by
                    unfold okQ
                    rw [List.getD_eq_getElem?_getD, HX.out, Option.getD_some]
                    have h1 := HG.out.many r
                    have h2 : cnt G r = 0 := Nat.eq_zero_of_not_pos (fun hh => HAN.out (cnt_mem.1 hh))
                    exact decide_eq_true (by omega))
                  clear hno HAT
                  go_wp2
                  obtain ⟨vv, rv, sl, t1, t2, t3, t4⟩ := HJ3.out.tab
                  obtain ⟨A8, c8, hrv⟩ := rowE_form t3.1
                  subst hrv
                  have hfp : ∀ q, q < p → ¬ (Value.slice A8 sl.length c8).ownBlock = some q := fun q hq e => by have := (t3.2 q e).1; omega
                  have hpp : ¬ (Value.slice A8 sl.length c8).ownBlock = some p := fun e => rowE_off t3.1 t1 (by decide) e
                  have u0 : ∀ pw : UW (fun q => (Value.slice A8 sl.length c8).ownBlock = some q) wi, pw.val.cell? ⟨p, 1, none⟩ = some (.slice A8 sl.length c8) := uw_cell (block_cell t1 1) (block_lt t1) hpp
                  have u1 : ∀ pw : UW (fun q => (Value.slice A8 sl.length c8).ownBlock = some q) wi, pw.val.cell? ⟨b0, 1, none⟩ = some (.slice (some ⟨b, 0, none⟩) M.length c2) := uw_cell (block_cell HJ3.out.a 1) (block_lt HJ3.out.a) (hfp _ HBD.out.1)
                  have u2 : ∀ pw : UW (fun q => (Value.slice A8 sl.length c8).ownBlock = some q) wi, pw.val.cell? ⟨b, j, none⟩ = some (.slice B' r.length d') := uw_cell ((ext_cell HJ3.out.ext _ _ HBB.out).trans HBC.out) (ext_lt HJ3.out.ext HBB.out) (hfp _ (Nat.lt_of_lt_of_le HBB.out HBD.out.2.2))
                  have T1 := Lib.hid t1
                  have T2 := Lib.hid t2
                  have T3 := Lib.hid t3
                  have T4 := Lib.hid t4
                  have HPP := Lib.hid hpp
                  have HRW := Lib.hid (rowE_ext HRI.out HJ3.out.ext)
                  have hll : sl.length ≤ 1000000 := by rw [t4.1]; omega
                  clear t1 t2 t3 t4 hfp hpp
                  refine wp_region_upd (fp := fun q => (Value.slice A8 sl.length c8).ownBlock = some q) [] [0, 1, 2, 3, 4, 5, 6] [(7, fun v w' => oneF elQ 0 (B', r.length, d') v w')] 8 (fun v w' => rowG elQ (fun g => p ≤ g ∧ ¬ (Value.slice A6 slg.length c6).ownBlock = some g) (sl ++ [(B', r.length, d')]) v w' ∧ rowE elP w' (.slice B' r.length d') r) [9, 10] [7, 8] rfl (by kernel_rfl) (by kernel_rfl) (by kernel_rfl) (fun _ _ d _ _ h => by cases d <;> exact h) ?_
                  refine wpPre_nil ?_
                  repeat (refine wpU_step rfl (fun K hK => ?_); (try simp only [Oper.quietAt, Oper.quietUpon]); go_simp; (refine hK _ ?_; clear hK K))
                  refine wpU_nil ?_
                  refine wpGen_step rfl rfl oneF_ext (fun w6 hE6 hS6 => ?_) (fun v2 => ?_)
                  · simp only [runsAt]
                    go_simp
                    exact ⟨ext_alloc (ext_refl _) _, w6.heap.size, rfl, Nat.zero_le _, heap_alloc_new w6 _⟩
                  refine wpGen_nil ?_
                  refine ⟨⟨_, rfl, rfl, fun v a b hE ⟨h1, h2⟩ => ⟨rowG_ext _ _ _ hE h1, rowE_ext h2 hE⟩⟩, fun w6 hE6 hS6 o ho => ?_, fun o ho v w6 hU6 hR6 => ?_⟩
                  · cases ho
                    have h1 : oneF elQ 0 (B', r.length, d') v2 w6 := hS6 _ (List.mem_cons_self ..)
                    refine runs_append (sv := .slice A8 sl.length c8) (xv := v2) (.tmp 76) (.tmp 82) rfl rfl rfl ?_
                    obtain ⟨v', w', hrun, hr, hg⟩ := append_ok tpQ 32 (fun g => p ≤ g ∧ ¬ (Value.slice A6 slg.length c6).ownBlock = some g) _ v2 sl [((B', r.length, d') : Sl)] w6 (rowG_ext _ _ _ hE6 T3.out) (srcOf_one h1) (by simp; omega) (fun q hq => ⟨by have := HJ3.out.size; have := ext_size hE6; omega, fun e => by obtain ⟨_, _, hc⟩ := rowE_block (HG.out.on hE6).row e; have := block_lt hc; omega⟩)
                    refine ⟨v', w', hrun, upd_grown hg, hr, rowE_off_upd (rowE_ext HRW.out hE6) (upd_grown hg) (fun q hf cur t hbt => ?_)⟩
                    obtain ⟨_, cur', hc'⟩ := rowE_block (rowE_ext T3.out.1 hE6) hf
                    rw [hbt] at hc'
                    simp only [Option.some.injEq, Obj.cells.injEq] at hc'
                    rw [hc'.2.1]
                    decide
                  · cases ho
                    obtain ⟨h1, h2⟩ := hR6
                    obtain ⟨hT6, hU7⟩ := tDB_more5 T1.out T2.out T3.out T4.out (s := ((B', r.length, d') : Sl)) h2 hU6 h1
                    have HJ5 := Lib.hid (HJ3.out.more hT6 hU7 (fun q hq => hq.elim (fun e => (T3.out.2 q e).1) (fun e => by omega)) HBD.out)
                    have hb6 := (hU6.block p (block_lt T1.out) HPP.out).trans T1.out
                    have qf := block_frozen hb6 1
                    have qc : w6.cell? ⟨p, 1, none⟩ = some (.slice A8 sl.length c8) := block_cell hb6 1
                    have lp := block_lt hb6
                    obtain ⟨A5, c5, rfl⟩ := rowE_form h1.1
                    obtain ⟨n5, hn5⟩ : ∃ n5, n5 = (sl ++ [((B', r.length, d') : Sl)]).length := ⟨_, rfl⟩
                    rw [← hn5] at HJ5 hU7 ⊢
                    have HGN := Lib.hid (show GG (w6.setCell ⟨p, 1, none⟩ (.slice A5 n5 c5)) (.slice A6 slg.length c6) slg G N' M (j + 1) from
                      ⟨rowE_upd HG.out.row hU7 (fun q hq hf => hf.elim (fun e => (T3.out.2 q e).2 hq) (fun e => rowE_off HG.out.row T1.out (by decide) (hq.trans (by rw [e])))), rowsQ_off HG.out.rows hU7 (fun q hf cur t hbt => hf.elim (fun e => by
                        obtain ⟨_, cur', hc'⟩ := rowE_block T3.out.1 e
                        rw [hbt] at hc'
                        simp only [Option.some.injEq, Obj.cells.injEq] at hc'
                        rw [hc'.2.1]
                        decide) (fun e => by
                        subst e
                        rw [T1.out] at hbt
                        simp only [Option.some.injEq, Obj.cells.injEq] at hbt
                        rw [← hbt.2.1]
                        decide)), fun x => by
                          have h1 := HG.out.many x
                          have h2 := cnt_next HX.out x
                          have h3 : r = x → cnt G x = 0 := fun e => Nat.eq_zero_of_not_pos (fun hh => HAN.out (by rw [e]; exact cnt_mem.1 hh))
                          rw [h2]
                          split
                          · rename_i e; have := h3 e; omega
                          · omega, HG.out.len, HG.out.each⟩)
                    clear hT6 hU7 h1 h2 hb6 hn5 u0 u1 u2
                    refine wpSeq_of_list [9, 10] [_, _] _ _ rfl ?_
                    go_wp2
                    go_roundw
                    case rel => exact ⟨j + 1, by omega, by go_num, _, rfl, _, _, HGN.out, by rw [keepG_yes HX.out HOK.out, ← HTE.out]; exact HJ5.out⟩
                    case measure => simp [intOf]; omega
                · obtain ⟨g, rfl, hg⟩ := rowE_some HG.out.row (fun e => by rw [e] at hi; simp at hi)
                  have hsc := (rowE_cap HG.out.row).2
                  have HNK := Lib.hid (show okQ N' M j = false from by
                    unfold okQ
                    rw [List.getD_eq_getElem?_getD, HX.out, Option.getD_some]
                    have h1 := HG.out.many r
                    have h2 : 0 < cnt G r := cnt_mem.2 (List.mem_of_getElem? hgi)
                    exact decide_eq_false (by omega))
                  have HGI := Lib.hid hgi
                  have hi0 : (0 : Int) ≤ (i : Int) := by omega
                  have hi1 : (i : Int) ≤ (slg.length : Int) := by omega
                  have hi2 : (i : Int) + 1 ≤ (slg.length : Int) := by omega
                  have hi3 : (i : Int) ≤ (c6 : Int) := by omega
                  have hi4 : ((i : Int) + 1).toNat = i + 1 := by omega
                  have hwi : IntKind.i64.wrap ((i : Int) + 1) = (i : Int) + 1 := IntWalk.i64_in _ (by omega)
                  have hi5 : (0 : Int) ≤ (i : Int) + 1 := by omega
                  have HSC := Lib.hid hsc
                  clear hgi hg HAT
                  obtain ⟨H, hH⟩ : ∃ H, H = wi.heap.size := ⟨_, rfl⟩
                  have HH := Lib.hid hH
                  clear hH
                  go_wp2
                  refine wp_region_gen [] [1, 2, 3, 5, 6, 7, 8] [(0, fun v w' => noneF elQ H v w'), (4, rowF elQ H (slg.take i))] [9, 10] [0, 4] rfl (by kernel_rfl) (by kernel_rfl) (fun _ _ d _ _ h => by cases d <;> exact h) ?_
                  refine wpPre_nil ?_
                  repeat (refine wpLoose_step rfl (fun K hK => ?_); (try simp only [Oper.quietAt, Oper.quietUpon]); go_simp; (refine hK _ ?_; clear hK K))
                  refine wpLoose_nil ?_
                  refine wpGen_step rfl rfl (fun v a b hE h => noneF_ext _ _ _ hE h) (fun w6 hE6 hS6 => ?_) (fun v5 => ?_)
                  · simp only [runsAt]
                    go_simp
                    exact ⟨ext_alloc (ext_refl _) _, w6.heap.size, rfl, by rw [HH.out]; exact ext_size hE6, heap_alloc_new w6 _⟩
                  refine wpGen_step rfl rfl rowF_ext (fun w6 hE6 hS6 => ?_) (fun v8 => ?_)
                  · have h5 : noneF elQ H v5 w6 := hS6 _ (List.mem_cons_self ..) (by kernel_rfl)
                    refine runs_append (sv := v5) (xv := .slice (some ⟨g, 0, none⟩) i c6) (.tmp 85) (.tmp 88) rfl rfl rfl ?_
                    obtain ⟨v', w', hrun, hE7, hr7⟩ := append_copy tpQ 32 H v5 _ (slg.take i) w6 h5 (srcOf_take i (by omega) (HG.out.on hE6).row c6) (by rw [List.length_take]; omega)
                    exact ⟨v', w', hrun, hE7, hr7⟩
                  refine wpGen_nil (fun w6 hE6 hS6 => ?_)
                  have H8 := Lib.hid (show rowF elQ H (slg.take i) v8 w6 from hS6 _ (List.mem_cons_self ..))
                  have HE6 := Lib.hid hE6
                  have HG6 := Lib.hid (HG.out.on hE6)
                  have HSW := Lib.hid (show SrcOf elQ w6 (.slice (if c6 = i + 1 then some ⟨g, 0, none⟩ else some ⟨g, i + 1, none⟩) (slg.length - (i + 1)) (c6 - (i + 1))) (slg.drop (i + 1)) from srcOf_drop (i + 1) (HG.out.on hE6).row _ _ _ rfl (fun h => by have := HSC.out; rw [if_neg (by omega)]; simp [elQ]))
                  clear hS6 hE6
                  refine wpSeq_of_list [9, 10] [_, _] _ _ rfl ?_
                  refine wpList_append rfl (.tmp 89) (.tmp 93) rfl v8 _ rfl rfl (fun v' w' => rowF elQ H (slg.take i ++ slg.drop (i + 1)) v' w' ∧ w6.grownBy w' v8.ownBlock) (append_onto tpQ _ H v8 _ (slg.take i) (slg.drop (i + 1)) w6 H8.out HSW.out (by rw [List.length_take, List.length_drop]; omega) (by rw [HH.out]; exact ext_size HE6.out)) ?_
                  rintro v9 w9 ⟨h9, hGr⟩
                  have hU9 : Upd (fun q => v8.ownBlock = some q) w6 w9 := upd_grown hGr
                  have hoff : ∀ q, v8.ownBlock = some q → ∀ cur t, w6.heap[q]? = some (.cells cur t (0, 0)) → t = 52 := fun q hq cur t hbt => by
                    obtain ⟨_, cur', hc'⟩ := rowE_block H8.out.1 hq
                    rw [hbt] at hc'
                    simp only [Option.some.injEq, Obj.cells.injEq] at hc'
                    rw [hc'.2.1]
                    rfl
                  have HE9 := Lib.hid (ext_upd HE6.out hU9 (fun q hq => by have h1 := H8.out.2 q hq; have := HH.out; omega))
                  have hrw := HG6.out.rows
                  have HGN := Lib.hid (show GG w9 v9 (slg.take i ++ slg.drop (i + 1)) (G.take i ++ G.drop (i + 1)) N' M (j + 1) from
                    ⟨h9.1, rowsQ_off (rowsQ_app (rowsQ_take i hrw) (rowsQ_drop (i + 1) hrw)) hU9 (fun q hq cur t hbt => by rw [hoff q hq cur t hbt]; decide), fun x => by
                      rw [cnt_erase HGI.out, HG.out.many x, cnt_next HX.out x]; omega, by rw [List.length_append, List.length_take, List.length_drop]; have := HG.out.len; omega, fun t ht => (List.mem_append.1 ht).elim (fun h => HG.out.each t (List.mem_of_mem_take h)) (fun h => HG.out.each t (List.mem_of_mem_drop h))⟩)
                  have HJN := Lib.hid ((HJ3.out.re (ok' := fun q => p ≤ q ∧ ¬ v9.ownBlock = some q) (fun q hq hlt => ⟨hq.1, fun e => by have := h9.2 q e; have := HH.out; omega⟩)).on HE9.out)
                  obtain ⟨A9, c9, rfl⟩ := rowE_form h9.1
                  obtain ⟨sn, hsn⟩ : ∃ sn, sn = slg.take i ++ slg.drop (i + 1) := ⟨_, rfl⟩
                  rw [← hsn] at HGN HJN ⊢
                  clear h9 hGr hU9 hoff hrw hsn HSW H8 hi0 hi1 hi2 hi3 hi4 hi5 hwi hsc
                  go_wp2
                  go_roundw
                  case rel => exact ⟨j + 1, by omega, by go_num, _, rfl, _, _, HGN.out, by rw [keepG_no HNK.out, ← HTE.out]; exact HJN.out⟩
                  case measure => simp [intOf]; omega
          · obtain rfl : j = M.length := by omega
            have hT := HJ2.out.tab
            obtain ⟨N, hN⟩ : ∃ N, N = keepG (okQ N' M) M M.length := ⟨_, rfl⟩
            rw [← hN] at hT
            obtain ⟨vv, rv, sl, t1, t2, t3, t4⟩ := hT
            obtain ⟨A7, c7, rfl⟩ := rowE_form t2
            obtain ⟨A8, c8, rfl⟩ := rowE_form t3.1
            have q0 : wo.cell? ⟨p, 0, none⟩ = some (.slice A7 VV.length c7) := block_cell t1 0
            have q1 : wo.cell? ⟨p, 1, none⟩ = some (.slice A8 sl.length c8) := block_cell t1 1
            have lp := block_lt t1
            have r0 : wo.cell? ⟨b2, 0, none⟩ = some (.slice none 0 0) := block_cell HJ2.out.r 0
            have r1 : wo.cell? ⟨b2, 1, none⟩ = some (.slice none 0 0) := block_cell HJ2.out.r 1
            have s0 : wo.frozen? ⟨b2, 0, none⟩ = false := block_frozen HJ2.out.r 0
            have s1 : wo.frozen? ⟨b2, 1, none⟩ = false := block_frozen HJ2.out.r 1
            have l1 := block_lt HJ2.out.r
            have HOW := Lib.hid (show TD wo (.agg #[.slice A7 VV.length c7, .slice A8 sl.length c8]) VV N from ⟨_, _, rfl, t2, sl, t3.1, t4⟩)
            have HN := Lib.hid hN
            clear t1 t2 t3 t4 hN
            go_wp2
            obtain ⟨wf, hwf⟩ : ∃ wf, wf = (wo.setCell ⟨b2, 0, none⟩ (.slice A7 VV.length c7)).setCell ⟨b2, 1, none⟩ (.slice A8 sl.length c8) := ⟨_, rfl⟩
            obtain ⟨t0, t1, ho, he⟩ := fin_td (H := p) (w := w) hwf HOW.out HJ2.out.r HB2.out HJ2.out.ext
            rw [← hwf]
            refine bodyPost_ret (v := .agg #[.slice A7 VV.length c7, .slice A8 sl.length c8]) (by simp [results, Tryd.results19, go_sem, t0, t1]) rfl ?_
            rw [HN.out] at ho
            exact ⟨_, _, rfl, ho, he⟩
  · have hz : ((VV.length : Int) != (V.length : Int)) = true := by simp; omega
    have HLE := Lib.hid hle
    clear hle
    go_wp2
    try rw [← hW2]
    try rw [← hp]
    clear r0 m0 r1 m1 hE2W hE3 hW2 hp hbp H0 H1 H2 HE0 HE5 HR5 HBW
    go_loopw [28, 5] (fun x f wr => ∃ i : Nat, i ≤ VV.length ∧ x = .int .i64 i ∧ (∃ fv : Value, fv = f ∧ ((fv = (.slice A6 sl'.length c6) ∧ VV.take i = V.take i ∧ VV.length = V.length) ∨ (fv = .slice none 0 0 ∧ VV ≠ V))) ∧ Ext W2 wr) (fun x _ _ => VV.length - (intOf x).toNat)
    case atStart => exact ⟨0, Nat.zero_le _, rfl, ⟨_, rfl, .inr ⟨rfl, fun e => HLE.out (by rw [e])⟩⟩, ext_refl _⟩
    case round =>
      rename World => wo
      obtain ⟨i, hi, rfl, ⟨f, rfl, hf⟩, hE⟩ := hrel
      have HE := Lib.hid hE
      clear hE
      by_cases hlt : i < VV.length
      · have hji : (i : Int) < (VV.length : Int) := by omega
        have hj0 : (0 : Int) ≤ (i : Int) := by omega
        obtain ⟨x, hx⟩ : ∃ x, VV[i]? = some x := ⟨_, List.getElem?_eq_getElem hlt⟩
        obtain ⟨g, rfl, hg⟩ := rowE_some HA1W.out (fun e => by rw [e] at hx; simp at hx)
        have HX := Lib.hid hx
        have q2 := rowS_cell (rowE_ext HA1W.out HE.out) hx
        have l2 := ext_lt HE.out hg
        clear hx hg
        have q0 : wo.cell? ⟨b0, 0, none⟩ = some (.slice (some ⟨g, 0, none⟩) VV.length c1) := (ext_cell HE.out _ _ (block_lt HJ.out.a)).trans (block_cell HJ.out.a 0)
        have q1 : wo.cell? ⟨b1, 0, none⟩ = some (.slice A3 V.length c3) := (ext_cell HE.out _ _ (block_lt HJ1.out)).trans (block_cell HJ1.out 0)
        have l0 := ext_lt HE.out (block_lt HJ.out.a)
        have l1 := ext_lt HE.out (block_lt HJ1.out)
        have hgc := cell_grown
        by_cases hkt : i < V.length
        · have hki : (i : Int) < (V.length : Int) := by omega
          have hkd : decide ((i : Int) < (V.length : Int)) = true := decide_eq_true hki
          obtain ⟨y, hy⟩ : ∃ y, V[i]? = some y := ⟨_, List.getElem?_eq_getElem hkt⟩
          obtain ⟨g', rfl, hg'⟩ := rowE_some HA3W.out (fun e => by rw [e] at hy; simp at hy)
          have HY := Lib.hid hy
          have q3 := rowS_cell (rowE_ext HA3W.out HE.out) hy
          have l3 := ext_lt HE.out hg'
          clear hy hg'
          by_cases hxy : x = y
          · have hne := str_eq hxy
            have HXY := Lib.hid hxy
            clear hxy
            rcases hf with ⟨rfl, hf1, hf2⟩ | ⟨rfl, hf1⟩
            · have HF1 := Lib.hid hf1
              have HF2 := Lib.hid hf2
              clear hf1 hf2
              go_wp2
              refine wp_region_free 18 [0, 1, 2, 3, 4, 5, 6, 7, 8, 9, 10, 11, 12, 13, 14, 15, 16, 17] [] (by kernel_rfl) (by kernel_rfl) ?_
              repeat (refine wpLoose_step rfl (fun K hK => ?_); (try simp only [Oper.quietAt, Oper.quietUpon]); go_simp; (refine hK _ ?_; clear hK K))
              refine wpLoose_nil (wpFresh_nil (fun w3 hE3 _ => ?_))
              have HE3 := Lib.hid (ext_trans HE.out hE3)
              clear hE3 q0 q1 l0 l1 hgc q2 q3 l2 l3 hne
              simp only [List.drop_succ_cons, List.drop_zero]
              refine wpList_nil ?_
              go_wp2
              go_roundw
              case rel => exact ⟨i + 1, by omega, by go_num, ⟨_, rfl, .inl ⟨rfl, by rw [List.take_add_one, List.take_add_one, HX.out, HY.out, HF1.out, HXY.out], HF2.out⟩⟩, HE3.out⟩
              case measure => simp [intOf]; omega
            · have HF1 := Lib.hid hf1
              clear hf1
              go_wp2
              refine wp_region_free 18 [0, 1, 2, 3, 4, 5, 6, 7, 8, 9, 10, 11, 12, 13, 14, 15, 16, 17] [] (by kernel_rfl) (by kernel_rfl) ?_
              repeat (refine wpLoose_step rfl (fun K hK => ?_); (try simp only [Oper.quietAt, Oper.quietUpon]); go_simp; (refine hK _ ?_; clear hK K))
              refine wpLoose_nil (wpFresh_nil (fun w3 hE3 _ => ?_))
              have HE3 := Lib.hid (ext_trans HE.out hE3)
              clear hE3 q0 q1 l0 l1 hgc q2 q3 l2 l3 hne
              simp only [List.drop_succ_cons, List.drop_zero]
              refine wpList_nil ?_
              go_wp2
              go_roundw
              case rel => exact ⟨i + 1, by omega, by go_num, ⟨_, rfl, .inr ⟨rfl, HF1.out⟩⟩, HE3.out⟩
              case measure => simp [intOf]; omega
          · have hne := str_ne hxy
            have HF1 := Lib.hid (show VV ≠ V from fun e => hxy (by have h1 := HX.out; rw [e, HY.out] at h1; exact (Option.some.inj h1).symm))
            clear hf hxy
            go_wp2
            refine wp_region_free 18 [0, 1, 2, 3, 4, 5, 6, 7, 8, 9, 10, 11, 12, 13, 14, 15, 16, 17] [] (by kernel_rfl) (by kernel_rfl) ?_
            repeat (refine wpLoose_step rfl (fun K hK => ?_); (try simp only [Oper.quietAt, Oper.quietUpon]); go_simp; (refine hK _ ?_; clear hK K))
            refine wpLoose_nil (wpFresh_nil (fun w3 hE3 _ => ?_))
            have HE3 := Lib.hid (ext_trans HE.out hE3)
            clear hE3 q0 q1 l0 l1 hgc q2 q3 l2 l3 hne
            simp only [List.drop_succ_cons, List.drop_zero]
            refine wpList_nil ?_
            go_wp2
            go_roundw
            case rel => exact ⟨i + 1, by omega, by go_num, ⟨_, rfl, .inr ⟨rfl, HF1.out⟩⟩, HE3.out⟩
            case measure => simp [intOf]; omega
        · have hki : ¬ (i : Int) < (V.length : Int) := by omega
          have hkd : decide ((i : Int) < (V.length : Int)) = false := decide_eq_false hki
          rcases hf with ⟨rfl, hf1, hf2⟩ | ⟨rfl, hf1⟩
          · exact absurd hlt (by omega)
          · have HF1 := Lib.hid hf1
            clear hf1
            go_wp2
            refine wp_region_free 18 [0, 1, 2, 3, 4, 5, 6, 7, 8, 9, 10, 11, 12, 13, 14, 15, 16, 17] [] (by kernel_rfl) (by kernel_rfl) ?_
            repeat (refine wpLoose_step rfl (fun K hK => ?_); (try simp only [Oper.quietAt, Oper.quietUpon]); go_simp; (refine hK _ ?_; clear hK K))
            refine wpLoose_nil (wpFresh_nil (fun w3 hE3 _ => ?_))
            have HE3 := Lib.hid (ext_trans HE.out hE3)
            clear hE3 q0 q1 l0 l1 hgc q2 l2
            simp only [List.drop_succ_cons, List.drop_zero]
            refine wpList_nil ?_
            go_wp2
            go_roundw
            case rel => exact ⟨i + 1, by omega, by go_num, ⟨_, rfl, .inr ⟨rfl, HF1.out⟩⟩, HE3.out⟩
            case measure => simp [intOf]; omega
      · obtain rfl : i = VV.length := by omega
        obtain ⟨sl0, G0, hGG, hgb⟩ : ∃ sl G, GG wo f sl G N' M 0 ∧ ∀ g, f.ownBlock = some g → g < p := by
          rcases hf with ⟨rfl, hf1, hf2⟩ | ⟨rfl, hf1⟩
          · have hVV : VV = V := by rw [List.take_length, hf2, List.take_length] at hf1; exact hf1
            have hNN : N' = N := hN'.elim (fun h => h.2) (fun h => absurd hVV h.1)
            refine ⟨sl', N, ⟨rowE_ext HGR.out HE.out, rowsQ_ext HA8.out (ext_trans HJ.out.ext HE.out), fun x => by rw [hNN]; simp [cnt], hs, HS.out⟩, HGB.out⟩
          · have hNN : N' = [] := hN'.elim (fun h => absurd h.1 hf1) (fun h => h.2)
            exact ⟨[], [], ⟨rowE_nil _, rowsQ_nil _, fun x => by rw [hNN]; simp [cnt], by simp, fun t h => by cases h⟩, fun g h => by cases h⟩
        have HGG := Lib.hid hGG
        have HJ0 := Lib.hid ((HJ.out.on HE.out).re (ok' := fun g => p ≤ g ∧ ¬ f.ownBlock = some g) (fun g h _ => ⟨h, fun e => by have := hgb g e; omega⟩))
        have q1 : wo.cell? ⟨b0, 1, none⟩ = some (.slice A2 M.length c2) := block_cell HJ0.out.a 1
        have l1 := block_lt HJ0.out.a
        have HGB0 := Lib.hid hGG.row
        clear hf hGG hgb HE hN'
        obtain ⟨A7, c7, rfl⟩ := rowE_form HGB0.out
        go_wp2
        clear q1 l1 HGB0
        go_loopw [53, 5] (fun x f wr => ∃ j : Nat, j ≤ M.length ∧ x = .int .i64 j ∧ (∃ fv : Value, fv = f ∧ ∃ sl G, GG wr fv sl G N' M j ∧ DK (fun g => p ≤ g ∧ ¬ fv.ownBlock = some g) b0 b2 p #[.slice A1 VV.length c1, .slice A2 M.length c2] VV (keepG (okQ N' M) M j) w wr)) (fun x _ _ => M.length - (intOf x).toNat)
        case atStart => exact ⟨0, Nat.zero_le _, rfl, _, rfl, _, _, HGG.out, HJ0.out⟩
        case round =>
          rename World => wo
          obtain ⟨j, hj, rfl, fv, rfl, slg, G, hG, hJ⟩ := hrel
          have HG0 := Lib.hid hG
          have HJ2 := Lib.hid hJ
          obtain ⟨A6, c6, rfl⟩ := rowE_form hG.row
          clear hG hJ HGG HJ0 hlt hi
          by_cases hlt : j < M.length
          · have hji : (j : Int) < (M.length : Int) := by omega
            have hj0 : (0 : Int) ≤ (j : Int) := by omega
            obtain ⟨r, hr'⟩ : ∃ r, M[j]? = some r := ⟨_, List.getElem?_eq_getElem hlt⟩
            have HX := Lib.hid hr'
            have HXL := Lib.hid (HR.out r (List.mem_of_getElem? hr'))
            obtain ⟨b, B', d', hGb, hb, hc, hri⟩ := rdQ_at HA2.out hr'
            subst hGb
            have HRI := Lib.hid hri
            have HBB := Lib.hid hb
            have HBC := Lib.hid hc
            obtain ⟨T, hT⟩ : ∃ T, T = keepG (okQ N' M) M j := ⟨_, rfl⟩
            have hTl : T.length ≤ 100000 := by rw [hT]; have := keepG_len (okQ N' M) M j; omega
            have HTE := Lib.hid hT
            rw [← hT] at HJ2
            have HGL := Lib.hid (show slg.length = G.length from HG0.out.rows.1)
            have hsl : slg.length ≤ 100000 := by rw [HGL.out]; exact HG0.out.len
            have HQ := Lib.hid (show RdQ wo (.slice A6 slg.length c6) G from ⟨slg, HG0.out.row, HG0.out.rows⟩)
            clear hr' hri hb hc hT
            go_wp2
            go_loopw [58, 9] (fun y a wr => ∃ k : Nat, k ≤ slg.length ∧ y = .int .i64 k ∧ (∃ m : Int, a = .int .i64 m ∧ ((m = -1 ∧ r ∉ G.take k) ∨ (∃ i : Nat, m = i ∧ i < k ∧ G[i]? = some r))) ∧ Ext wo wr) (fun y _ _ => slg.length - (intOf y).toNat)
            case atStart => exact ⟨0, Nat.zero_le _, rfl, ⟨-1, rfl, .inl ⟨rfl, by simp⟩⟩, ext_refl _⟩
            case round =>
              rename World => wi
              obtain ⟨k, hk, rfl, ⟨m, rfl, hm'⟩, hEi⟩ := hrel
              have HAT := Lib.hid hm'
              have HEI := Lib.hid hEi
              have HJ3 := Lib.hid (HJ2.out.on hEi)
              have HG := Lib.hid (HG0.out.on hEi)
              clear hm' hEi
              by_cases hkt : k < slg.length
              · have hki : (k : Int) < (slg.length : Int) := by omega
                have hk0 : (0 : Int) ≤ (k : Int) := by omega
                obtain ⟨t, ht⟩ : ∃ t, G[k]? = some t := ⟨_, List.getElem?_eq_getElem (by rw [← HGL.out]; exact hkt)⟩
                have HT := Lib.hid ht
                have HTL := Lib.hid (HG.out.each t (List.mem_of_getElem? ht))
                obtain ⟨g, B9, d9, hg1, hg2, hg3, hg4⟩ := rdQ_at HQ.out ht
                subst hg1
                have HG4 := Lib.hid hg4
                have CC := Lib.hid (show ∀ w', Ext wi w' → Calls Tryd.prog 52 #[.slice B9 t.length d9, .slice B' r.length d'] w' (fun e w'' => e = .returned (.bool (decide (t = r))) ∧ Ext w' w'') from fun w' hE => rsame_any _ _ t r w' (rowE_ext HG4.out (ext_trans HEI.out hE)) (rowE_ext HRI.out (ext_trans HJ3.out.ext hE)) HTL.out HXL.out)
                obtain ⟨cb, hcb⟩ : ∃ cb, cb = decide (t = r) := ⟨_, rfl⟩
                rw [← hcb] at CC
                have HCB := Lib.hid hcb
                have q2 : wi.cell? ⟨b0, 1, none⟩ = some (.slice (some ⟨b, 0, none⟩) M.length c2) := block_cell HJ3.out.a 1
                have l2 := block_lt HJ3.out.a
                have q3 := (ext_cell HEI.out _ _ hg2).trans hg3
                have l3 := ext_lt HEI.out hg2
                have q4 := (ext_cell HJ3.out.ext _ _ HBB.out).trans HBC.out
                have l4 := ext_lt HJ3.out.ext HBB.out
                clear ht hg2 hg3 hg4 hcb
                have hgc := cell_grown
                go_wp2
                refine wp_region_free 10 [0, 1, 2, 3, 4, 5, 6, 7, 8, 9] [] (by kernel_rfl) (by kernel_rfl) ?_
                repeat (refine wpLoose_step rfl (fun K hK => ?_); (try simp only [Oper.quietAt, Oper.quietUpon]); go_simp; first | (refine hK _ ?_; clear hK K) | (apply Exists.intro; refine ⟨fun p => ?_, hK _ ?_⟩; (go_at_call 52; exact CC.out _ (ext_grow (ext_refl _) _ _)); clear hK K))
                refine wpLoose_nil (wpFresh_nil (fun w3 hE3 _ => ?_))
                have HE3 := Lib.hid (ext_trans HEI.out hE3)
                clear hE3 q2 q3 q4 l2 l3 l4 hgc
                simp only [List.drop_succ_cons, List.drop_zero]
                refine wpList_nil ?_
                cases cb
                · go_wp2
                  go_roundw
                  case rel => exact ⟨k + 1, by omega, by go_num, ⟨m, rfl, HAT.out.elim (fun h => .inl ⟨h.1, by
                    rw [List.take_add_one, HT.out, List.mem_append]
                    exact fun hh => hh.elim h.2 (fun e => (of_decide_eq_false HCB.out.symm) (by rw [Option.toList_some, List.mem_singleton] at e; exact e.symm))⟩) (fun ⟨i, h1, h2, h3⟩ => .inr ⟨i, h1, by omega, h3⟩)⟩, HE3.out⟩
                  case measure => simp [intOf]; omega
                · go_wp2
                  go_roundw
                  case rel => exact ⟨k + 1, by omega, by go_num, ⟨k, rfl, .inr ⟨k, rfl, by omega, by rw [HT.out, of_decide_eq_true HCB.out.symm]⟩⟩, HE3.out⟩
                  case measure => simp [intOf]; omega
              · obtain rfl : k = slg.length := by omega
                rcases HAT.out with ⟨rfl, hno⟩ | ⟨i, rfl, hi, hgi⟩
                · have HAN := Lib.hid (show r ∉ G by rw [HGL.out, List.take_length] at hno; exact hno)
                  have HOK := Lib.hid (show okQ N' M j = true from by
                    unfold okQ
                    rw [List.getD_eq_getElem?_getD, HX.out, Option.getD_some]
                    have h1 := HG.out.many r
                    have h2 : cnt G r = 0 := Nat.eq_zero_of_not_pos (fun hh => HAN.out (cnt_mem.1 hh))
                    exact decide_eq_true (by omega))
                  clear hno HAT
                  go_wp2
                  obtain ⟨vv, rv, sl, t1, t2, t3, t4⟩ := HJ3.out.tab
                  obtain ⟨A8, c8, hrv⟩ := rowE_form t3.1
                  subst hrv
                  have hfp : ∀ q, q < p → ¬ (Value.slice A8 sl.length c8).ownBlock = some q := fun q hq e => by have := (t3.2 q e).1; omega
                  have hpp : ¬ (Value.slice A8 sl.length c8).ownBlock = some p := fun e => rowE_off t3.1 t1 (by decide) e
                  have u0 : ∀ pw : UW (fun q => (Value.slice A8 sl.length c8).ownBlock = some q) wi, pw.val.cell? ⟨p, 1, none⟩ = some (.slice A8 sl.length c8) := uw_cell (block_cell t1 1) (block_lt t1) hpp
                  have u1 : ∀ pw : UW (fun q => (Value.slice A8 sl.length c8).ownBlock = some q) wi, pw.val.cell? ⟨b0, 1, none⟩ = some (.slice (some ⟨b, 0, none⟩) M.length c2) := uw_cell (block_cell HJ3.out.a 1) (block_lt HJ3.out.a) (hfp _ HBD.out.1)
                  have u2 : ∀ pw : UW (fun q => (Value.slice A8 sl.length c8).ownBlock = some q) wi, pw.val.cell? ⟨b, j, none⟩ = some (.slice B' r.length d') := uw_cell ((ext_cell HJ3.out.ext _ _ HBB.out).trans HBC.out) (ext_lt HJ3.out.ext HBB.out) (hfp _ (Nat.lt_of_lt_of_le HBB.out HBD.out.2.2))
                  have T1 := Lib.hid t1
                  have T2 := Lib.hid t2
                  have T3 := Lib.hid t3
                  have T4 := Lib.hid t4
                  have HPP := Lib.hid hpp
                  have HRW := Lib.hid (rowE_ext HRI.out HJ3.out.ext)
                  have hll : sl.length ≤ 1000000 := by rw [t4.1]; omega
                  clear t1 t2 t3 t4 hfp hpp
                  refine wp_region_upd (fp := fun q => (Value.slice A8 sl.length c8).ownBlock = some q) [] [0, 1, 2, 3, 4, 5, 6] [(7, fun v w' => oneF elQ 0 (B', r.length, d') v w')] 8 (fun v w' => rowG elQ (fun g => p ≤ g ∧ ¬ (Value.slice A6 slg.length c6).ownBlock = some g) (sl ++ [(B', r.length, d')]) v w' ∧ rowE elP w' (.slice B' r.length d') r) [9, 10] [7, 8] rfl (by kernel_rfl) (by kernel_rfl) (by kernel_rfl) (fun _ _ d _ _ h => by cases d <;> exact h) ?_
                  refine wpPre_nil ?_
                  repeat (refine wpU_step rfl (fun K hK => ?_); (try simp only [Oper.quietAt, Oper.quietUpon]); go_simp; (refine hK _ ?_; clear hK K))
                  refine wpU_nil ?_
                  refine wpGen_step rfl rfl oneF_ext (fun w6 hE6 hS6 => ?_) (fun v2 => ?_)
                  · simp only [runsAt]
                    go_simp
                    exact ⟨ext_alloc (ext_refl _) _, w6.heap.size, rfl, Nat.zero_le _, heap_alloc_new w6 _⟩
                  refine wpGen_nil ?_
                  refine ⟨⟨_, rfl, rfl, fun v a b hE ⟨h1, h2⟩ => ⟨rowG_ext _ _ _ hE h1, rowE_ext h2 hE⟩⟩, fun w6 hE6 hS6 o ho => ?_, fun o ho v w6 hU6 hR6 => ?_⟩
                  · cases ho
                    have h1 : oneF elQ 0 (B', r.length, d') v2 w6 := hS6 _ (List.mem_cons_self ..)
                    refine runs_append (sv := .slice A8 sl.length c8) (xv := v2) (.tmp 76) (.tmp 82) rfl rfl rfl ?_
                    obtain ⟨v', w', hrun, hr, hg⟩ := append_ok tpQ 32 (fun g => p ≤ g ∧ ¬ (Value.slice A6 slg.length c6).ownBlock = some g) _ v2 sl [((B', r.length, d') : Sl)] w6 (rowG_ext _ _ _ hE6 T3.out) (srcOf_one h1) (by simp; omega) (fun q hq => ⟨by have := HJ3.out.size; have := ext_size hE6; omega, fun e => by obtain ⟨_, _, hc⟩ := rowE_block (HG.out.on hE6).row e; have := block_lt hc; omega⟩)
                    refine ⟨v', w', hrun, upd_grown hg, hr, rowE_off_upd (rowE_ext HRW.out hE6) (upd_grown hg) (fun q hf cur t hbt => ?_)⟩
                    obtain ⟨_, cur', hc'⟩ := rowE_block (rowE_ext T3.out.1 hE6) hf
                    rw [hbt] at hc'
                    simp only [Option.some.injEq, Obj.cells.injEq] at hc'
                    rw [hc'.2.1]
                    decide
                  · cases ho
                    obtain ⟨h1, h2⟩ := hR6
                    obtain ⟨hT6, hU7⟩ := tDB_more5 T1.out T2.out T3.out T4.out (s := ((B', r.length, d') : Sl)) h2 hU6 h1
                    have HJ5 := Lib.hid (HJ3.out.more hT6 hU7 (fun q hq => hq.elim (fun e => (T3.out.2 q e).1) (fun e => by omega)) HBD.out)
                    have hb6 := (hU6.block p (block_lt T1.out) HPP.out).trans T1.out
                    have qf := block_frozen hb6 1
                    have qc : w6.cell? ⟨p, 1, none⟩ = some (.slice A8 sl.length c8) := block_cell hb6 1
                    have lp := block_lt hb6
                    obtain ⟨A5, c5, rfl⟩ := rowE_form h1.1
                    obtain ⟨n5, hn5⟩ : ∃ n5, n5 = (sl ++ [((B', r.length, d') : Sl)]).length := ⟨_, rfl⟩
                    rw [← hn5] at HJ5 hU7 ⊢
                    have HGN := Lib.hid (show GG (w6.setCell ⟨p, 1, none⟩ (.slice A5 n5 c5)) (.slice A6 slg.length c6) slg G N' M (j + 1) from
                      ⟨rowE_upd HG.out.row hU7 (fun q hq hf => hf.elim (fun e => (T3.out.2 q e).2 hq) (fun e => rowE_off HG.out.row T1.out (by decide) (hq.trans (by rw [e])))), rowsQ_off HG.out.rows hU7 (fun q hf cur t hbt => hf.elim (fun e => by
                        obtain ⟨_, cur', hc'⟩ := rowE_block T3.out.1 e
                        rw [hbt] at hc'
                        simp only [Option.some.injEq, Obj.cells.injEq] at hc'
                        rw [hc'.2.1]
                        decide) (fun e => by
                        subst e
                        rw [T1.out] at hbt
                        simp only [Option.some.injEq, Obj.cells.injEq] at hbt
                        rw [← hbt.2.1]
                        decide)), fun x => by
                          have h1 := HG.out.many x
                          have h2 := cnt_next HX.out x
                          have h3 : r = x → cnt G x = 0 := fun e => Nat.eq_zero_of_not_pos (fun hh => HAN.out (by rw [e]; exact cnt_mem.1 hh))
                          rw [h2]
                          split
                          · rename_i e; have := h3 e; omega
                          · omega, HG.out.len, HG.out.each⟩)
                    clear hT6 hU7 h1 h2 hb6 hn5 u0 u1 u2
                    refine wpSeq_of_list [9, 10] [_, _] _ _ rfl ?_
                    go_wp2
                    go_roundw
                    case rel => exact ⟨j + 1, by omega, by go_num, _, rfl, _, _, HGN.out, by rw [keepG_yes HX.out HOK.out, ← HTE.out]; exact HJ5.out⟩
                    case measure => simp [intOf]; omega
                · obtain ⟨g, rfl, hg⟩ := rowE_some HG.out.row (fun e => by rw [e] at hi; simp at hi)
                  have hsc := (rowE_cap HG.out.row).2
                  have HNK := Lib.hid (show okQ N' M j = false from by
                    unfold okQ
                    rw [List.getD_eq_getElem?_getD, HX.out, Option.getD_some]
                    have h1 := HG.out.many r
                    have h2 : 0 < cnt G r := cnt_mem.2 (List.mem_of_getElem? hgi)
                    exact decide_eq_false (by omega))
                  have HGI := Lib.hid hgi
                  have hi0 : (0 : Int) ≤ (i : Int) := by omega
                  have hi1 : (i : Int) ≤ (slg.length : Int) := by omega
                  have hi2 : (i : Int) + 1 ≤ (slg.length : Int) := by omega
                  have hi3 : (i : Int) ≤ (c6 : Int) := by omega
                  have hi4 : ((i : Int) + 1).toNat = i + 1 := by omega
                  have hwi : IntKind.i64.wrap ((i : Int) + 1) = (i : Int) + 1 := IntWalk.i64_in _ (by omega)
                  have hi5 : (0 : Int) ≤ (i : Int) + 1 := by omega
                  have HSC := Lib.hid hsc
                  clear hgi hg HAT
                  obtain ⟨H, hH⟩ : ∃ H, H = wi.heap.size := ⟨_, rfl⟩
                  have HH := Lib.hid hH
                  clear hH
                  go_wp2
                  refine wp_region_gen [] [1, 2, 3, 5, 6, 7, 8] [(0, fun v w' => noneF elQ H v w'), (4, rowF elQ H (slg.take i))] [9, 10] [0, 4] rfl (by kernel_rfl) (by kernel_rfl) (fun _ _ d _ _ h => by cases d <;> exact h) ?_
                  refine wpPre_nil ?_
                  repeat (refine wpLoose_step rfl (fun K hK => ?_); (try simp only [Oper.quietAt, Oper.quietUpon]); go_simp; (refine hK _ ?_; clear hK K))
                  refine wpLoose_nil ?_
                  refine wpGen_step rfl rfl (fun v a b hE h => noneF_ext _ _ _ hE h) (fun w6 hE6 hS6 => ?_) (fun v5 => ?_)
                  · simp only [runsAt]
                    go_simp
                    exact ⟨ext_alloc (ext_refl _) _, w6.heap.size, rfl, by rw [HH.out]; exact ext_size hE6, heap_alloc_new w6 _⟩
                  refine wpGen_step rfl rfl rowF_ext (fun w6 hE6 hS6 => ?_) (fun v8 => ?_)
                  · have h5 : noneF elQ H v5 w6 := hS6 _ (List.mem_cons_self ..) (by kernel_rfl)
                    refine runs_append (sv := v5) (xv := .slice (some ⟨g, 0, none⟩) i c6) (.tmp 85) (.tmp 88) rfl rfl rfl ?_
                    obtain ⟨v', w', hrun, hE7, hr7⟩ := append_copy tpQ 32 H v5 _ (slg.take i) w6 h5 (srcOf_take i (by omega) (HG.out.on hE6).row c6) (by rw [List.length_take]; omega)
                    exact ⟨v', w', hrun, hE7, hr7⟩
                  refine wpGen_nil (fun w6 hE6 hS6 => ?_)
                  have H8 := Lib.hid (show rowF elQ H (slg.take i) v8 w6 from hS6 _ (List.mem_cons_self ..))
                  have HE6 := Lib.hid hE6
                  have HG6 := Lib.hid (HG.out.on hE6)
                  have HSW := Lib.hid (show SrcOf elQ w6 (.slice (if c6 = i + 1 then some ⟨g, 0, none⟩ else some ⟨g, i + 1, none⟩) (slg.length - (i + 1)) (c6 - (i + 1))) (slg.drop (i + 1)) from srcOf_drop (i + 1) (HG.out.on hE6).row _ _ _ rfl (fun h => by have := HSC.out; rw [if_neg (by omega)]; simp [elQ]))
                  clear hS6 hE6
                  refine wpSeq_of_list [9, 10] [_, _] _ _ rfl ?_
                  refine wpList_append rfl (.tmp 89) (.tmp 93) rfl v8 _ rfl rfl (fun v' w' => rowF elQ H (slg.take i ++ slg.drop (i + 1)) v' w' ∧ w6.grownBy w' v8.ownBlock) (append_onto tpQ _ H v8 _ (slg.take i) (slg.drop (i + 1)) w6 H8.out HSW.out (by rw [List.length_take, List.length_drop]; omega) (by rw [HH.out]; exact ext_size HE6.out)) ?_
                  rintro v9 w9 ⟨h9, hGr⟩
                  have hU9 : Upd (fun q => v8.ownBlock = some q) w6 w9 := upd_grown hGr
                  have hoff : ∀ q, v8.ownBlock = some q → ∀ cur t, w6.heap[q]? = some (.cells cur t (0, 0)) → t = 52 := fun q hq cur t hbt => by
                    obtain ⟨_, cur', hc'⟩ := rowE_block H8.out.1 hq
                    rw [hbt] at hc'
                    simp only [Option.some.injEq, Obj.cells.injEq] at hc'
                    rw [hc'.2.1]
                    rfl
                  have HE9 := Lib.hid (ext_upd HE6.out hU9 (fun q hq => by have h1 := H8.out.2 q hq; have := HH.out; omega))
                  have hrw := HG6.out.rows
                  have HGN := Lib.hid (show GG w9 v9 (slg.take i ++ slg.drop (i + 1)) (G.take i ++ G.drop (i + 1)) N' M (j + 1) from
                    ⟨h9.1, rowsQ_off (rowsQ_app (rowsQ_take i hrw) (rowsQ_drop (i + 1) hrw)) hU9 (fun q hq cur t hbt => by rw [hoff q hq cur t hbt]; decide), fun x => by
                      rw [cnt_erase HGI.out, HG.out.many x, cnt_next HX.out x]; omega, by rw [List.length_append, List.length_take, List.length_drop]; have := HG.out.len; omega, fun t ht => (List.mem_append.1 ht).elim (fun h => HG.out.each t (List.mem_of_mem_take h)) (fun h => HG.out.each t (List.mem_of_mem_drop h))⟩)
                  have HJN := Lib.hid ((HJ3.out.re (ok' := fun q => p ≤ q ∧ ¬ v9.ownBlock = some q) (fun q hq hlt => ⟨hq.1, fun e => by have := h9.2 q e; have := HH.out; omega⟩)).on HE9.out)
                  obtain ⟨A9, c9, rfl⟩ := rowE_form h9.1
                  obtain ⟨sn, hsn⟩ : ∃ sn, sn = slg.take i ++ slg.drop (i + 1) := ⟨_, rfl⟩
                  rw [← hsn] at HGN HJN ⊢
                  clear h9 hGr hU9 hoff hrw hsn HSW H8 hi0 hi1 hi2 hi3 hi4 hi5 hwi hsc
                  go_wp2
                  go_roundw
                  case rel => exact ⟨j + 1, by omega, by go_num, _, rfl, _, _, HGN.out, by rw [keepG_no HNK.out, ← HTE.out]; exact HJN.out⟩
                  case measure => simp [intOf]; omega
          · obtain rfl : j = M.length := by omega
            have hT := HJ2.out.tab
            obtain ⟨N, hN⟩ : ∃ N, N = keepG (okQ N' M) M M.length := ⟨_, rfl⟩
            rw [← hN] at hT
            obtain ⟨vv, rv, sl, t1, t2, t3, t4⟩ := hT
            obtain ⟨A7, c7, rfl⟩ := rowE_form t2
            obtain ⟨A8, c8, rfl⟩ := rowE_form t3.1
            have q0 : wo.cell? ⟨p, 0, none⟩ = some (.slice A7 VV.length c7) := block_cell t1 0
            have q1 : wo.cell? ⟨p, 1, none⟩ = some (.slice A8 sl.length c8) := block_cell t1 1
            have lp := block_lt t1
            have r0 : wo.cell? ⟨b2, 0, none⟩ = some (.slice none 0 0) := block_cell HJ2.out.r 0
            have r1 : wo.cell? ⟨b2, 1, none⟩ = some (.slice none 0 0) := block_cell HJ2.out.r 1
            have s0 : wo.frozen? ⟨b2, 0, none⟩ = false := block_frozen HJ2.out.r 0
            have s1 : wo.frozen? ⟨b2, 1, none⟩ = false := block_frozen HJ2.out.r 1
            have l1 := block_lt HJ2.out.r
            have HOW := Lib.hid (show TD wo (.agg #[.slice A7 VV.length c7, .slice A8 sl.length c8]) VV N from ⟨_, _, rfl, t2, sl, t3.1, t4⟩)
            have HN := Lib.hid hN
            clear t1 t2 t3 t4 hN
            go_wp2
            obtain ⟨wf, hwf⟩ : ∃ wf, wf = (wo.setCell ⟨b2, 0, none⟩ (.slice A7 VV.length c7)).setCell ⟨b2, 1, none⟩ (.slice A8 sl.length c8) := ⟨_, rfl⟩
            obtain ⟨t0, t1, ho, he⟩ := fin_td (H := p) (w := w) hwf HOW.out HJ2.out.r HB2.out HJ2.out.ext
            rw [← hwf]
            refine bodyPost_ret (v := .agg #[.slice A7 VV.length c7, .slice A8 sl.length c8]) (by simp [results, Tryd.results19, go_sem, t0, t1]) rfl ?_
            rw [HN.out] at ho
            exact ⟨_, _, rfl, ho, he⟩
end Go.Proofs.YtniggdaakiofeaaDoor
