/- The statement StoreOrders: the walk. -/
import Derived.Test.YtfaegjlolhpofaaDoorWo
import Derived.Deep.RegionHeld3
import Derived.Deep.DeepCutAuto
namespace Go.Proofs.YtfaegjlolhpofaaDoor
open Go.RowKit Go.Sort
set_option maxHeartbeats 1600000

/-- a key that lies in a block of its own -/
def KeyAt (w : World) (b : Nat) (k : Key) : Prop := w.cell? ⟨b, 0, none⟩ = some (.int .i64 k.a) ∧ w.cell? ⟨b, 1, none⟩ = some (.int .i64 k.b) ∧ w.cell? ⟨b, 2, none⟩ = some (.int .i64 k.c)
theorem keyAt_ext {w w' : World} {b : Nat} {k : Key} (h : KeyAt w b k) (hE : Ext w w') : KeyAt w' b k := by
  have hb := World.block_lt_of_cell? _ _ h.1
  exact ⟨(ext_cell hE _ _ hb).trans h.1, (ext_cell hE _ _ hb).trans h.2.1, (ext_cell hE _ _ hb).trans h.2.2⟩
theorem keyAt_lt {w : World} {b : Nat} {k : Key} (h : KeyAt w b k) : b < w.heap.size := World.block_lt_of_cell? _ _ h.1
theorem keyAt_block {w : World} {b : Nat} {k : Key} {t : TypeId} {fr : Nat × Nat} (h : w.heap[b]? = some (.cells (key3 k) t fr)) : KeyAt w b k := ⟨block_cell h 0, block_cell h 1, block_cell h 2⟩

theorem orders_walk (p x y : Key) (o : Int) (w : World) (hL : Laid w) : Calls Tryd.prog 3 #[K3 p.a p.b p.c, .agg #[.int .i64 x.a, .int .i64 x.b, .int .i64 x.c, .int .i64 y.a, .int .i64 y.b, .int .i64 y.c], .int .i64 o] w fun e w' => e = .returned (.bool true) ∧ Ext w w' := by
  have HL := Lib.hid hL
  clear hL
  go_enter Tryd.func3, Tryd.ntmps3
  go_upto_region 3 with (go_at_call 9; refine (awake_any _ (laid_ext HL.out (ext_alloc (ext_alloc (ext_refl _) _) _))).mono ?_; rintro e W ⟨rfl, hE⟩)
  have HPW := Lib.hid (keyAt_ext (keyAt_ext (keyAt_block (k := p) (heap_alloc_new w (.cells (key3 p) 22))) (ext_alloc (ext_refl _) (.cells #[.int .i64 x.a, .int .i64 x.b, .int .i64 x.c, .int .i64 y.a, .int .i64 y.b, .int .i64 y.c] 23))) hE)
  have hl6 : W.heap[w.heap.size + 1]? = some (.cells #[.int .i64 x.a, .int .i64 x.b, .int .i64 x.c, .int .i64 y.a, .int .i64 y.b, .int .i64 y.c] 23 (0, 0)) := (ext_block hE (by simp)).trans (by have := heap_alloc_new (w.alloc (.cells #[.int .i64 p.a, .int .i64 p.b, .int .i64 p.c] 22)) (.cells #[.int .i64 x.a, .int .i64 x.b, .int .i64 x.c, .int .i64 y.a, .int .i64 y.b, .int .i64 y.c] 23); simpa using this)
  have HE := Lib.hid (ext_trans (ext_alloc (ext_alloc (ext_refl w) _) _) hE)
  have l0 : W.cell? ⟨w.heap.size + 1, 0, none⟩ = some (.int .i64 x.a) := block_cell hl6 0
  have l1 : W.cell? ⟨w.heap.size + 1, 1, none⟩ = some (.int .i64 x.b) := block_cell hl6 1
  have l2 : W.cell? ⟨w.heap.size + 1, 2, none⟩ = some (.int .i64 x.c) := block_cell hl6 2
  have l3 : W.cell? ⟨w.heap.size + 1, 3, none⟩ = some (.int .i64 y.a) := block_cell hl6 3
  have l4 : W.cell? ⟨w.heap.size + 1, 4, none⟩ = some (.int .i64 y.b) := block_cell hl6 4
  have l5 : W.cell? ⟨w.heap.size + 1, 5, none⟩ = some (.int .i64 y.c) := block_cell hl6 5
  have ll := block_lt hl6
  have lne : W.heap.size ≠ w.heap.size + 1 := by omega
  have lne2 : W.heap.size + 1 ≠ w.heap.size + 1 := by omega
  clear hE hl6
  go_cut [7, 8] (fun s7 s8 wx => ∃ b1 b2 : Nat, s7 = .pointer (some ⟨b1, 0, none⟩) ∧ s8 = .pointer (some ⟨b2, 0, none⟩) ∧ KeyAt wx b1 x ∧ KeyAt wx b2 y ∧ Ext W wx)
  case first =>
    go_region_held3 (fun w' => w'.cell? ⟨w.heap.size + 1, 0, none⟩ = some (.int .i64 x.a) ∧ w'.cell? ⟨w.heap.size + 1, 1, none⟩ = some (.int .i64 x.b) ∧ w'.cell? ⟨w.heap.size + 1, 2, none⟩ = some (.int .i64 x.c) ∧
        w'.cell? ⟨w.heap.size + 1, 3, none⟩ = some (.int .i64 y.a) ∧ w'.cell? ⟨w.heap.size + 1, 4, none⟩ = some (.int .i64 y.b) ∧ w'.cell? ⟨w.heap.size + 1, 5, none⟩ = some (.int .i64 y.c)) (go_keep) (fail)
    all_goals (go_wp2_with fail; go_meet; refine ⟨_, _, rfl, rfl, ⟨by go_simp, by go_simp, by go_simp⟩, ⟨by go_simp, by go_simp, by go_simp⟩, ?_⟩; (repeat (first | assumption | exact ext_refl _ | refine ext_drew ?_ | refine ext_alloc ?_ _ | refine ext_set ?_ (by simp <;> omega) _)))
  case rest =>
    obtain ⟨b1, b2, rfl, rfl, hx, hy, hE2⟩ := hcut
    have HP := Lib.hid (keyAt_ext HPW.out hE2)
    have HX := Lib.hid hx
    have HY := Lib.hid hy
    have HE2 := Lib.hid (ext_trans HE.out hE2)
    clear hx hy hE2 l0 l1 l2 l3 l4 l5 ll lne lne2
    go_wp2
    have hgc := cell_grown
    have HP2 := Lib.hid (keyAt_lt HP.out)
    go_loopw [9, 19] (fun f i wr => (KeyAt wr w.heap.size p ∧ KeyAt wr b1 x ∧ KeyAt wr b2 y) ∧ ((i = .int .i64 0 ∧ ∃ b : Bool, f = .bool b ∧ b = true ∧ Ext w wr) ∨ (i = .int .i64 1 ∧ ∃ b : Bool, f = .bool b ∧ b = fit1 p.a x.a ∧ Ext w wr) ∨ (i = .int .i64 2 ∧ ∃ b : Bool, f = .bool b ∧ b = (fit1 p.a x.a && fit1 p.b x.b) ∧ Ext w wr) ∨ (i = .int .i64 3 ∧ ∃ b : Bool, f = .bool b ∧ b = (fit1 p.a x.a && fit1 p.b x.b && fit1 p.c x.c) ∧ Ext w wr))) (fun _ i _ => 3 - (intOf i).toNat)
    case atStart => exact ⟨⟨HP.out, HX.out, HY.out⟩, .inl ⟨rfl, true, rfl, rfl, HE2.out⟩⟩
    case round =>
      obtain ⟨⟨hp, hx, hy⟩, hrel⟩ := hrel
      have HPr := Lib.hid hp
      have HXr := Lib.hid hx
      have HYr := Lib.hid hy
      obtain ⟨hp0, hp1, hp2⟩ := hp
      obtain ⟨hx0, hx1, hx2⟩ := hx
      clear hy
      rcases hrel with ⟨rfl, b, rfl, hb, hE⟩ | ⟨rfl, b, rfl, hb, hE⟩ | ⟨rfl, b, rfl, hb, hE⟩ | ⟨rfl, b, rfl, hb, hE⟩
      · have HE := Lib.hid hE
        have HB := Lib.hid hb
        clear hE hb
        cases b with
        | false =>
          go_wp2
          go_quiet (fail)
          go_wp2
          go_roundw
          case rel =>
            refine ⟨⟨keyAt_ext HPr.out (ext_drewN _ _), keyAt_ext HXr.out (ext_drewN _ _), keyAt_ext HYr.out (ext_drewN _ _)⟩, .inr (.inl ⟨rfl, _, rfl, ?_, ext_trans HE.out (ext_drewN _ _)⟩)⟩
            have h := HB.out
            first | (rw [← h]; rfl) | cases h
          case measure => simp [intOf]
        | true =>
          by_cases h1 : p.a < 0
          · go_wp2
            go_quiet (fail)
            go_wp2
            go_roundw
            case rel =>
              refine ⟨⟨keyAt_ext HPr.out (ext_drewN _ _), keyAt_ext HXr.out (ext_drewN _ _), keyAt_ext HYr.out (ext_drewN _ _)⟩, .inr (.inl ⟨rfl, _, rfl, ?_, ext_trans HE.out (ext_drewN _ _)⟩)⟩
              rw [fit1_true (p := p.a) (k := x.a) (.inl h1)]
              try (first | rfl | (rw [← HB.out]; rfl))
            case measure => simp [intOf]
          · have h2 : decide (p.a < 0) = false := by simp; omega
            by_cases h3 : p.a = x.a
            · have hb : (p.a == x.a) = true := by simp [h3]
              have H3 := Lib.hid h3
              clear h3
              go_wp2
              go_quiet (fail)
              go_wp2
              go_roundw
              case rel =>
                refine ⟨⟨keyAt_ext HPr.out (ext_drewN _ _), keyAt_ext HXr.out (ext_drewN _ _), keyAt_ext HYr.out (ext_drewN _ _)⟩, .inr (.inl ⟨rfl, _, rfl, ?_, ext_trans HE.out (ext_drewN _ _)⟩)⟩
                rw [fit1_true (p := p.a) (k := x.a) (.inr H3.out)]
                try (first | rfl | (rw [← HB.out]; rfl))
              case measure => simp [intOf]
            · have hb : (p.a == x.a) = false := by simp [h3]
              have H3 := Lib.hid h3
              clear h3
              go_wp2
              go_quiet (fail)
              go_wp2
              go_roundw
              case rel =>
                refine ⟨⟨keyAt_ext HPr.out (ext_drewN _ _), keyAt_ext HXr.out (ext_drewN _ _), keyAt_ext HYr.out (ext_drewN _ _)⟩, .inr (.inl ⟨rfl, _, rfl, ?_, ext_trans HE.out (ext_drewN _ _)⟩)⟩
                rw [fit1_false (p := p.a) (k := x.a) (fun h => h.elim (by omega) H3.out)]
                try (first | rfl | (rw [← HB.out]; rfl))
              case measure => simp [intOf]
      · have HE := Lib.hid hE
        have HB := Lib.hid hb
        clear hE hb
        cases b with
        | false =>
          go_wp2
          go_quiet (fail)
          go_wp2
          go_roundw
          case rel =>
            refine ⟨⟨keyAt_ext HPr.out (ext_drewN _ _), keyAt_ext HXr.out (ext_drewN _ _), keyAt_ext HYr.out (ext_drewN _ _)⟩, .inr (.inr (.inl ⟨rfl, _, rfl, ?_, ext_trans HE.out (ext_drewN _ _)⟩))⟩
            have h := HB.out
            first | (rw [← h]; rfl) | cases h
          case measure => simp [intOf]
        | true =>
          by_cases h1 : p.b < 0
          · go_wp2
            go_quiet (fail)
            go_wp2
            go_roundw
            case rel =>
              refine ⟨⟨keyAt_ext HPr.out (ext_drewN _ _), keyAt_ext HXr.out (ext_drewN _ _), keyAt_ext HYr.out (ext_drewN _ _)⟩, .inr (.inr (.inl ⟨rfl, _, rfl, ?_, ext_trans HE.out (ext_drewN _ _)⟩))⟩
              rw [fit1_true (p := p.b) (k := x.b) (.inl h1)]
              try (first | rfl | (rw [← HB.out]; rfl))
            case measure => simp [intOf]
          · have h2 : decide (p.b < 0) = false := by simp; omega
            by_cases h3 : p.b = x.b
            · have hb : (p.b == x.b) = true := by simp [h3]
              have H3 := Lib.hid h3
              clear h3
              go_wp2
              go_quiet (fail)
              go_wp2
              go_roundw
              case rel =>
                refine ⟨⟨keyAt_ext HPr.out (ext_drewN _ _), keyAt_ext HXr.out (ext_drewN _ _), keyAt_ext HYr.out (ext_drewN _ _)⟩, .inr (.inr (.inl ⟨rfl, _, rfl, ?_, ext_trans HE.out (ext_drewN _ _)⟩))⟩
                rw [fit1_true (p := p.b) (k := x.b) (.inr H3.out)]
                try (first | rfl | (rw [← HB.out]; rfl))
              case measure => simp [intOf]
            · have hb : (p.b == x.b) = false := by simp [h3]
              have H3 := Lib.hid h3
              clear h3
              go_wp2
              go_quiet (fail)
              go_wp2
              go_roundw
              case rel =>
                refine ⟨⟨keyAt_ext HPr.out (ext_drewN _ _), keyAt_ext HXr.out (ext_drewN _ _), keyAt_ext HYr.out (ext_drewN _ _)⟩, .inr (.inr (.inl ⟨rfl, _, rfl, ?_, ext_trans HE.out (ext_drewN _ _)⟩))⟩
                rw [fit1_false (p := p.b) (k := x.b) (fun h => h.elim (by omega) H3.out)]
                try (first | rfl | (rw [← HB.out]; rfl))
              case measure => simp [intOf]
      · have HE := Lib.hid hE
        have HB := Lib.hid hb
        clear hE hb
        cases b with
        | false =>
          go_wp2
          go_quiet (fail)
          go_wp2
          go_roundw
          case rel =>
            refine ⟨⟨keyAt_ext HPr.out (ext_drewN _ _), keyAt_ext HXr.out (ext_drewN _ _), keyAt_ext HYr.out (ext_drewN _ _)⟩, .inr (.inr (.inr ⟨rfl, _, rfl, ?_, ext_trans HE.out (ext_drewN _ _)⟩))⟩
            have h := HB.out
            first | (rw [← h]; rfl) | cases h
          case measure => simp [intOf]
        | true =>
          by_cases h1 : p.c < 0
          · go_wp2
            go_quiet (fail)
            go_wp2
            go_roundw
            case rel =>
              refine ⟨⟨keyAt_ext HPr.out (ext_drewN _ _), keyAt_ext HXr.out (ext_drewN _ _), keyAt_ext HYr.out (ext_drewN _ _)⟩, .inr (.inr (.inr ⟨rfl, _, rfl, ?_, ext_trans HE.out (ext_drewN _ _)⟩))⟩
              rw [fit1_true (p := p.c) (k := x.c) (.inl h1)]
              try (first | rfl | (rw [← HB.out]; rfl))
            case measure => simp [intOf]
          · have h2 : decide (p.c < 0) = false := by simp; omega
            by_cases h3 : p.c = x.c
            · have hb : (p.c == x.c) = true := by simp [h3]
              have H3 := Lib.hid h3
              clear h3
              go_wp2
              go_quiet (fail)
              go_wp2
              go_roundw
              case rel =>
                refine ⟨⟨keyAt_ext HPr.out (ext_drewN _ _), keyAt_ext HXr.out (ext_drewN _ _), keyAt_ext HYr.out (ext_drewN _ _)⟩, .inr (.inr (.inr ⟨rfl, _, rfl, ?_, ext_trans HE.out (ext_drewN _ _)⟩))⟩
                rw [fit1_true (p := p.c) (k := x.c) (.inr H3.out)]
                try (first | rfl | (rw [← HB.out]; rfl))
              case measure => simp [intOf]
            · have hb : (p.c == x.c) = false := by simp [h3]
              have H3 := Lib.hid h3
              clear h3
              go_wp2
              go_quiet (fail)
              go_wp2
              go_roundw
              case rel =>
                refine ⟨⟨keyAt_ext HPr.out (ext_drewN _ _), keyAt_ext HXr.out (ext_drewN _ _), keyAt_ext HYr.out (ext_drewN _ _)⟩, .inr (.inr (.inr ⟨rfl, _, rfl, ?_, ext_trans HE.out (ext_drewN _ _)⟩))⟩
                rw [fit1_false (p := p.c) (k := x.c) (fun h => h.elim (by omega) H3.out)]
                try (first | rfl | (rw [← HB.out]; rfl))
              case measure => simp [intOf]
      · have HE := Lib.hid hE
        have HB := Lib.hid hb
        clear hE hb
        go_upto_region 10 with fail
        obtain ⟨hy0, hy1, hy2⟩ := HYr.out
        have lx := keyAt_lt HXr.out
        have ly := keyAt_lt HYr.out
        have nx1 : wr.heap.size ≠ b1 := by omega
        have nx2 : wr.heap.size + 1 ≠ b1 := by omega
        have ny1 : wr.heap.size ≠ b2 := by omega
        have ny2 : wr.heap.size + 1 ≠ b2 := by omega
        go_cut [11, 12] (fun s11 s12 wx => ∃ b3 b4 : Nat, s11 = .pointer (some ⟨b3, 0, none⟩) ∧ s12 = .pointer (some ⟨b4, 0, none⟩) ∧ KeyAt wx b3 x ∧ KeyAt wx b4 y ∧ Ext wr wx)
        case first =>
          go_region_held3 (fun w' => w'.cell? ⟨b1, 0, none⟩ = some (.int .i64 x.a) ∧ w'.cell? ⟨b1, 1, none⟩ = some (.int .i64 x.b) ∧ w'.cell? ⟨b1, 2, none⟩ = some (.int .i64 x.c) ∧
              w'.cell? ⟨b2, 0, none⟩ = some (.int .i64 y.a) ∧ w'.cell? ⟨b2, 1, none⟩ = some (.int .i64 y.b) ∧ w'.cell? ⟨b2, 2, none⟩ = some (.int .i64 y.c)) (go_keep) (fail)
          all_goals (go_wp2_with fail; go_meet; refine ⟨_, _, rfl, rfl, ⟨by go_simp, by go_simp, by go_simp⟩, ⟨by go_simp, by go_simp, by go_simp⟩, ?_⟩; (repeat (first | assumption | exact ext_refl _ | refine ext_drew ?_ | refine ext_alloc ?_ _ | refine ext_set ?_ (by simp <;> omega) _)))
        case rest =>
          obtain ⟨b3, b4, rfl, rfl, hx3, hy4, hE3⟩ := hcut
          have HPc := Lib.hid (keyAt_ext HPr.out hE3)
          have HXc := Lib.hid (keyAt_ext HXr.out hE3)
          have HYc := Lib.hid (keyAt_ext HYr.out hE3)
          have HX3 := Lib.hid hx3
          have HY4 := Lib.hid hy4
          have HEc := Lib.hid (ext_trans HE.out hE3)
          have HLc := Lib.hid (laid_ext HL.out HEc.out)
          clear hx3 hy4 hE3 hp0 hp1 hp2 hx0 hx1 hx2 hy0 hy1 hy2 lx ly nx1 nx2 ny1 ny2
          obtain ⟨p0, p1, p2⟩ := HPc.out
          obtain ⟨x0, x1, x2⟩ := HXc.out
          obtain ⟨y0, y1, y2⟩ := HYc.out
          obtain ⟨u0, u1, u2⟩ := HX3.out
          obtain ⟨v0, v1, v2⟩ := HY4.out
          have lp := keyAt_lt HPc.out
          have lx := keyAt_lt HXc.out
          have ly := keyAt_lt HYc.out
          have lu := keyAt_lt HX3.out
          have lv := keyAt_lt HY4.out
          have hb : (fitsB p x == b) = true := by rw [HB.out]; simp [fitsB]
          go_wp2_with fail
          refine wp_region_free 35 (0 :: 1 :: 2 :: 3 :: 4 :: 5 :: 6 :: 7 :: 8 :: 9 :: 10 :: 11 :: 12 :: 13 :: 14 :: 15 :: 16 :: 17 :: 18 :: 19 :: 20 :: 21 :: 22 :: 23 :: 24 :: 25 :: 26 :: 27 :: 28 :: 29 :: 30 :: 31 :: 32 :: 33 :: 34 :: []) [] (by kernel_rfl) (by kernel_rfl) ?_
          repeat (refine wpLoose_step rfl (fun K hK => ?_); (try simp only [Oper.quietAt, Oper.quietUpon]); go_simp; first
            | (refine hK _ ?_; clear hK K)
            | (apply Exists.intro; refine ⟨fun q => ?_, hK _ ?_⟩; (first
                | (go_at_call 10; (with_reducible refine order_any p _ ?_); exact laid_ext HLc.out (ext_grow (ext_refl _) _ _))
                | (go_at_call 11; (with_reducible refine reforder_any p _))
                | (go_at_call 12; (with_reducible refine less_any o x y _ ?_); exact laid_ext HLc.out (ext_grow (ext_refl _) _ _))
                | (go_at_call 12; (with_reducible refine less_any o y x _ ?_); exact laid_ext HLc.out (ext_grow (ext_refl _) _ _))
                | (go_at_call 13; (with_reducible refine refless_any o x y _))
                | (go_at_call 13; (with_reducible refine refless_any o y x _))
                | (go_at_call 14; (with_reducible refine fits_any p x _))); clear hK K))
          refine wpLoose_nil (wpFresh_nil (fun w9 hE9 _ => ?_))
          have HE9 := Lib.hid hE9
          clear hE9
          simp only [List.drop_succ_cons, List.drop_zero]
          refine wpList_nil ?_
          go_wp2
          go_ret
          exact ⟨rfl, ext_trans HEc.out HE9.out⟩
end Go.Proofs.YtfaegjlolhpofaaDoor
